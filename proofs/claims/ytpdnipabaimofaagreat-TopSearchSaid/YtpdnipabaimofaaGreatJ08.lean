/-
  round.Step where it is refused: the walk.
  A range over a function whose iterator lays memory of its own between the rounds; rows that grow inside a fence; a function that leaves with many marks.
  A worker's iterator: its contract.
-/
import Derived.Test.YtpdnipabaimofaaGreatJ07
import Derived.Test.YtpdnipabaimofaaGreatJ03
import Derived.Test.YtpdnipabaimofaaGreatJ01
import Derived.WalkMore
import Derived.RangeFuncNested
import Derived.RangeFuncLeaves
import Derived.OwnWalkIn
import Derived.Sort.QuietTacIn
import Derived.StillTailTactics
namespace Go.Proofs.YtpdnipabaimofaaGreat
open Go.RowKit

/-- What Step asks of states and messages. -/
def stepOk (S M : List Msg) (k n : Int) : Prop := rightP S n ∧ allMay M ∧ (∀ m ∈ M, m.v < n) ∧ (1 ≤ k ∧ k ≤ 16)
instance (S M : List Msg) (k n : Int) : Decidable (stepOk S M k n) := by unfold stepOk allMay; infer_instance
theorem splitOk_of {S M : List Msg} {k n : Int} (h : stepOk S M k n) : splitOk k (freshL S M) := ⟨h.2.2.2, fun m hm => h.2.1 m (freshL_mem hm)⟩

/-- The boxes that Step begins with. -/
structure StAt (w : World) (q : QuA) (a : RwA) (W : World) : Prop where
  q_ : W.heap[w.heap.size]? = some (quBox q)
  r_ : W.heap[w.heap.size + 1]? = some (rwBox a)
  n_ : W.heap[w.heap.size + 2]? = some (.cells #[.int .i64 ((a.n1 : Int) - 1)] 3 (0, 0))
  bel : Below w.heap.size w W
section
variable {w W W' : World} {q : QuA} {a : RwA}
theorem StAt.lt (h : StAt w q a W) : w.heap.size + 2 < W.heap.size := (Array.getElem?_eq_some_iff.1 h.n_).1
theorem StAt.step (h : StAt w q a W) (hB : Below W.heap.size W W') : StAt w q a W' :=
  have hl := h.lt
  ⟨(hB.block _ (by omega)).trans h.q_, (hB.block _ (by omega)).trans h.r_, (hB.block _ (by omega)).trans h.n_, h.bel.trans (hB.mono (by omega))⟩
theorem stAt_new (w : World) (q : QuA) (a : RwA) : StAt w q a (((w.alloc (quBox q)).alloc (rwBox a)).alloc (.cells #[.int .i64 ((a.n1 : Int) - 1)] 3)) := by
  have h1 := (w.alloc (quBox q)).alloc_heap_new (rwBox a)
  have h2 := ((w.alloc (quBox q)).alloc (rwBox a)).alloc_heap_new (.cells #[.int .i64 ((a.n1 : Int) - 1)] 3)
  rw [World.size_alloc] at h1
  rw [World.size_alloc, World.size_alloc] at h2
  refine ⟨?_, ?_, h2, ((below_one w _).trans ((below_one _ _).mono (by simp))).trans ((below_one _ _).mono (by simp; omega))⟩
  · rw [Below.heap_alloc _ _ _ (by simp; omega), Below.heap_alloc _ _ _ (by simp)]
    exact w.alloc_heap_new _
  · rw [Below.heap_alloc _ _ _ (by simp)]
    exact h1
theorem StAt.rw_ (h : StAt w q a W) (hr : RwIn w w.heap.size a) : RwIn W W.heap.size a := (hr.below h.bel).more h.bel.size
theorem StAt.rc (h : StAt w q a W) : W.cell? ⟨w.heap.size + 1, 0, none⟩ = some (.slice a.A1 a.n1 a.c1) ∧ W.cell? ⟨w.heap.size + 1, 1, none⟩ = some (.slice a.A2 a.n2 a.c2) ∧ W.cell? ⟨w.heap.size + 1, 2, none⟩ = some (.slice a.A3 a.n3 a.c3) ∧ W.cell? ⟨w.heap.size + 1, 3, none⟩ = some (.slice a.A4 a.n4 a.c4) := by
  refine ⟨?_, ?_, ?_, ?_⟩ <;> · rw [Lib.cell_of_heap h.r_]; rfl
theorem StAt.qc (h : StAt w q a W) : W.cell? ⟨w.heap.size, 0, none⟩ = some (.int .i64 q.kind) ∧ W.cell? ⟨w.heap.size, 1, none⟩ = some (.int .i64 q.src) ∧ W.cell? ⟨w.heap.size, 2, none⟩ = some (.int .i64 q.dst) ∧ W.cell? ⟨w.heap.size, 3, none⟩ = some (.slice q.W q.nw q.cw) ∧ W.cell? ⟨w.heap.size, 4, none⟩ = some (.int .i64 q.radius) ∧ W.cell? ⟨w.heap.size, 5, none⟩ = some (.int .i64 q.most) := by
  refine ⟨?_, ?_, ?_, ?_, ?_, ?_⟩ <;> · rw [Lib.cell_of_heap h.q_]; rfl
theorem StAt.nc (h : StAt w q a W) : W.cell? ⟨w.heap.size + 2, 0, none⟩ = some (.int .i64 ((a.n1 : Int) - 1)) := by rw [Lib.cell_of_heap h.n_]; rfl
end
theorem rw_n {w : World} {B : Nat} {a : RwA} (h : RwIn w B a) (hc : chkR a.r) : (a.n1 : Int) - 1 = (a.r.n : Int) := by
  have := h.off.int_len
  have := hc.2.2.1.1.1.1
  unfold Rws.n
  omega

set_option maxRecDepth 100000 in
set_option maxHeartbeats 4000000 in
theorem step_err (q : QuA) (a : RwA) (As Am Ap : Option Addr) (ns cs nm cm np cp : Nat) (k : Int) (S M : List Msg) (ps : List Int) (w : World) (ha : RwIn w w.heap.size a) (hS : Reads w w.heap.size 4 As ns (mv S)) (hM : Reads w w.heap.size 4 Am nm (mv M)) (hP : Reads w w.heap.size 1 Ap np (iv ps))
    (hns : ns ≤ 500000) (hnm : nm ≤ 4000) (hnp : np ≤ maxLen) (fS : ∀ m ∈ S, m.fits) (fM : ∀ m ∈ M, m.fits) (hno : ¬ (chkR a.r ∧ stepOk S M k ((a.n1 : Int) - 1))) :
    Calls Tryz.prog 24 #[quVal q, rwVal a, .slice As ns cs, .slice Am nm cm, .int .i64 k, .slice Ap np cp] w fun e w' => e = .returned (.tuple #[.slice none 0 0, .slice none 0 0, .int .i64 (if chkR a.r then 1 else 40)]) ∧ Below w.heap.size w w' := by
  show Calls Tryz.prog 24 #[.agg #[.int .i64 q.kind, .int .i64 q.src, .int .i64 q.dst, .slice q.W q.nw q.cw, .int .i64 q.radius, .int .i64 q.most], .agg #[.slice a.A1 a.n1 a.c1, .slice a.A2 a.n2 a.c2, .slice a.A3 a.n3 a.c3, .slice a.A4 a.n4 a.c4], .slice As ns cs, .slice Am nm cm, .int .i64 k, .slice Ap np cp] w _
  have hx := stAt_new w q a
  obtain ⟨r0, r1, r2, r3⟩ := hx.rc
  have hm1 := ha.m1
  unfold maxLen at hm1
  unfold quBox rwBox at r0 r1 r2 r3
  have b0 : ((w.alloc (quBox q)).alloc (rwBox a)).cell? ⟨w.heap.size + 1, 0, none⟩ = some (.slice a.A1 a.n1 a.c1) := by
    have := (w.alloc (quBox q)).alloc_heap_new (rwBox a)
    rw [World.size_alloc] at this
    rw [Lib.cell_of_heap this]; rfl
  unfold quBox rwBox at b0
  have HX := Lib.hid hx
  have HA := Lib.hid ha
  have HS := Lib.hid hS
  have HM := Lib.hid hM
  have HP := Lib.hid hP
  have HFS := Lib.hid fS
  have HFM := Lib.hid fM
  have HNO := Lib.hid hno
  clear hx ha hS hM hP fS fM hno
  by_cases hc : chkR a.r
  rotate_left
  · rw [if_neg hc]
    have hd : decide (chkR a.r) = false := decide_eq_false hc
    clear hc
    go_enter Tryz.func24, Tryz.ntmps24
    go_wp2_with (fail)
    go_step3
    go_wp2_with (fail)
    refine (rowsCheck_c a _ (HX.out.rw_ HA.out)).mono ?_
    rintro e w1 ⟨rfl, hB1⟩
    have HX1 := Lib.hid (HX.out.step hB1)
    clear hB1 r0 r1 r2 r3 HX
    rw [hd]
    clear hd
    go_wp2_with (fail)
    rw [Exit.noGoto_ret]
    refine bodyPost_ret (v := .tuple #[.slice none 0 0, .slice none 0 0, .int .i64 40]) ?_ rfl ⟨rfl, HX1.out.bel⟩
    simp [results, Tryz.results24, go_sem]
  rw [if_pos hc]
  have hd : decide (chkR a.r) = true := decide_eq_true hc
  have hno : Hid (¬ stepOk S M k ((a.n1 : Int) - 1)) := fun h => HNO.out ⟨hc, h⟩
  clear hc HNO
  go_enter Tryz.func24, Tryz.ntmps24
  go_wp2_with (fail)
  go_step3
  go_wp2_with (fail)
  refine (rowsCheck_c a _ (HX.out.rw_ HA.out)).mono ?_
  rintro e w1 ⟨rfl, hB1⟩
  have HX1 := Lib.hid (HX.out.step hB1)
  clear hB1 r0 r1 r2 r3 HX
  rw [hd]
  clear hd
  go_wp2_with (fail)
  refine (order_w Ap k np cp ps _ ((HP.out.below HX1.out.bel).more HX1.out.bel.size) hnp).mono ?_
  rintro e w2 ⟨A2, n2, c2, rfl, hB2⟩
  have HX2 := Lib.hid (HX1.out.step hB2)
  clear hB2 HX1
  generalize hoe : (if 0 ≤ k ∧ k ≤ 1000 then (0 : Int) else 1) = oe
  have HOE := Lib.hid hoe
  clear hoe
  go_wp2_with (fail)
  refine (fresh_c As Am ns cs nm cm S M _ ((HS.out.below HX2.out.bel).more HX2.out.bel.size) ((HM.out.below HX2.out.bel).more HX2.out.bel.size) (by omega) (by omega) HFS.out HFM.out).mono ?_
  rintro e w3 ⟨A3, k3, c3, rfl, hk3, ho3, hB3⟩
  have HX3 := Lib.hid (HX2.out.step hB3)
  have HO3 := Lib.hid (own_reads ho3)
  have hk3' : k3 ≤ 4000 := by
    rw [hk3]
    have h1 : (freshL S M).length ≤ (combine M).length := List.length_filter_le _ _
    have h2 := combine_lenR M
    have h3 := HM.out.mail_len
    omega
  clear hB3 HX2 ho3 hk3
  go_wp2_with (fail)
  refine (split_w A3 k3 c3 k (freshL S M) _ HO3.out (by omega)).mono ?_
  rintro e w4 ⟨A4, n4, c4, rfl, hB4⟩
  have HX4 := Lib.hid (HX3.out.step hB4)
  clear hB4 HX3 HO3
  generalize hse : (if splitOk k (freshL S M) then (0 : Int) else 1) = se
  have HSE := Lib.hid hse
  clear hse
  have n4 := HX4.out.nc
  by_cases o1 : 0 ≤ k ∧ k ≤ 1000
  rotate_left
  · obtain rfl : oe = 1 := by have h := HOE.out; rw [if_neg o1] at h; exact h.symm
    clear o1
    go_wp2_with (fail)
    rw [Exit.noGoto_ret]
    refine bodyPost_ret (v := .tuple #[.slice none 0 0, .slice none 0 0, .int .i64 1]) ?_ rfl ⟨rfl, HX4.out.bel⟩
    simp [results, Tryz.results24, go_sem]
  obtain rfl : oe = 0 := by have h := HOE.out; rw [if_pos o1] at h; exact h.symm
  clear o1
  by_cases s1 : splitOk k (freshL S M)
  rotate_left
  · obtain rfl : se = 1 := by have h := HSE.out; rw [if_neg s1] at h; exact h.symm
    clear s1
    go_wp2_with (fail)
    rw [Exit.noGoto_ret]
    refine bodyPost_ret (v := .tuple #[.slice none 0 0, .slice none 0 0, .int .i64 1]) ?_ rfl ⟨rfl, HX4.out.bel⟩
    simp [results, Tryz.results24, go_sem]
  obtain rfl : se = 0 := by have h := HSE.out; rw [if_pos s1] at h; exact h.symm
  have HS1 := Lib.hid s1
  clear s1
  go_wp2_with (fail)
  refine (right_c As ns cs S ((a.n1 : Int) - 1) _ ((HS.out.below HX4.out.bel).more HX4.out.bel.size) (by omega)).mono ?_
  rintro e w5 ⟨rfl, hB5⟩
  have HX5 := Lib.hid (HX4.out.step hB5)
  clear hB5 n4
  have n5 := HX5.out.nc
  by_cases t1 : rightP S ((a.n1 : Int) - 1)
  rotate_left
  · rw [decide_eq_false t1]
    clear t1
    go_wp2_with (fail)
    rw [Exit.noGoto_ret]
    refine bodyPost_ret (v := .tuple #[.slice none 0 0, .slice none 0 0, .int .i64 1]) ?_ rfl ⟨rfl, HX5.out.bel⟩
    simp [results, Tryz.results24, go_sem]
  rw [decide_eq_true t1]
  have HT1 := Lib.hid t1
  clear t1
  go_wp2_with (fail)
  refine (check_c Am nm cm M _ ((HM.out.below HX5.out.bel).more HX5.out.bel.size) (by unfold maxLen; omega)).mono ?_
  rintro e w6 ⟨rfl, hB6⟩
  have HX6 := Lib.hid (HX5.out.step hB6)
  clear hB6 n5
  have n6 := HX6.out.nc
  by_cases u1 : allMay M
  rotate_left
  · rw [decide_eq_false u1]
    clear u1
    go_wp2_with (fail)
    rw [Exit.noGoto_ret]
    refine bodyPost_ret (v := .tuple #[.slice none 0 0, .slice none 0 0, .int .i64 1]) ?_ rfl ⟨rfl, HX6.out.bel⟩
    simp [results, Tryz.results24, go_sem]
  rw [decide_eq_true u1]
  have hany : Hid ((M.any fun x => decide ((a.n1 : Int) - 1 ≤ x.v)) = true) := by
    show _ = _
    by_cases hh : (M.any fun x => decide ((a.n1 : Int) - 1 ≤ x.v)) = true
    · exact hh
    · exfalso
      refine hno.out ⟨HT1.out, u1, fun m hm => ?_, HS1.out.1⟩
      rw [List.any_eq_true] at hh
      have h2 : ¬ (a.n1 : Int) - 1 ≤ m.v := fun h3 => hh ⟨m, hm, decide_eq_true h3⟩
      omega
  clear u1
  go_wp2_with (fail)
  refine (containsB_c Am nm cm (w.heap.size + 2) M ((a.n1 : Int) - 1) _ ((HM.out.below HX6.out.bel).more HX6.out.bel.size) (by unfold maxLen; omega) HX6.out.lt n6).mono ?_
  rintro e w7 ⟨rfl, hB7⟩
  rw [hany.out]
  have HX7 := Lib.hid (HX6.out.step hB7)
  clear hB7 n6
  go_wp2_with (fail)
  rw [Exit.noGoto_ret]
  refine bodyPost_ret (v := .tuple #[.slice none 0 0, .slice none 0 0, .int .i64 1]) ?_ rfl ⟨rfl, HX7.out.bel⟩
  simp [results, Tryz.results24, go_sem]
end Go.Proofs.YtpdnipabaimofaaGreat

namespace Go.Proofs.YtpdnipabaimofaaGreat
open Go Go.RowKit

section
variable {P : Program} {w : World} {ops : Array Oper} {rest : List Oper} {o : Oper} {a : Act} {Q : Exit → Act → World → Prop} {F : Fence} {fu : Nat}

/-- 'append(out, xs...)' inside a fence: xs whatever reads as cells. -/
theorem wpListIn_cat {t e : TypeId} {size bytes : Nat} (E : Elem P t e size bytes) (hgd : o.guard = none) (s x : Operand)
    (ho : o.op = .call { callee := .builtin .append, args := #[s, x], argTypes := #[t, t] })
    {base n c : Nat} {A : Option Addr} {xs : List Value} (hown : w.ownsRow base e size (.slice A n c) n xs) (hs : a.eval s = .slice A n c)
    {B m d : Nat} {C : Option Addr} {news : List Value} (hr : Reads w B size C m news) (hx : a.eval x = .slice C m d) (h1 : ∀ u ∈ news, u.oneCell' = true)
    (h63 : n + m ≤ maxLen) (hbytes : (n + m) * bytes ≤ 140737488355328) (hbase : base ≤ w.heap.size)
    (h : ∀ A' c' w', w'.ownsRow base e size (.slice A' (n + m) c') (n + m) (xs ++ news) → Pushed w w' A A' → wpListIn F fu P ops Q rest (a.put o.dst (.slice A' (n + m) c')) w') : wpListIn F fu P ops Q (o :: rest) a w := by
  refine wpListIn_plain hgd fun K hK' => ?_
  have hwp : o.wp P a w (fun a' w' => ∃ A' c', a' = a.put o.dst (.slice A' (n + m) c') ∧ w'.ownsRow base e size (.slice A' (n + m) c') (n + m) (xs ++ news) ∧ Pushed w w' A A') (fun _ _ _ => False) :=
    wp_cat E s x ho hown hs hr hx h1 h63 hbytes hbase fun A' c' w' h2 p => ⟨A', c', rfl, h2, p⟩
  unfold Oper.wp at hwp
  unfold Oper.wpIn
  refine ⟨?_, ?_⟩
  · simp [Oper.about, ho, resolve, Target.leads, Sem.run_pure]
  · rw [Oper.semAt_plain F _ _ (by rw [ho]; intro c hc'; cases hc')]
    generalize hrr : (execOp a.eval o).run P w = r at hwp ⊢
    have hval : (∃ v w', r = .ok (.value v) w') ∨ ∃ hh w', r = .halt hh w' := by
      rw [← hrr]
      unfold execOp
      simp only [ho, resolve, invoke, builtin, Sem.run_bind, Sem.run_pure, Result.andThen_ok, List.map_toArray, List.map_cons, List.map_nil]
      cases hb : (Builtin.append_ #[t, t] o.type #[a.eval s, a.eval x]).run P w with
      | ok v w2 => exact .inl ⟨v, w2, by simp [Result.andThen]⟩
      | halt h w2 => exact .inr ⟨h, w2, by simp [Result.andThen]⟩
    rcases hval with ⟨v, w', rfl⟩ | ⟨hh, w', rfl⟩
    · obtain ⟨A', c', he, h2, p⟩ := hwp
      show K (a.put o.dst v) w'
      rw [he]
      exact hK' _ _ (h A' c' w' h2 p)
    · cases hh <;> exact hwp.elim

theorem wpListIn_push {t e : TypeId} {size bytes : Nat} (E : Elem P t e size bytes) (hgd : o.guard = none) (s x : Operand)
    (ho : o.op = .call { callee := .builtin .append, args := #[s, x], argTypes := #[t, t] })
    {base n c : Nat} {A : Option Addr} {xs : List Value} (hown : w.ownsRow base e size (.slice A n c) n xs) (hs : a.eval s = .slice A n c)
    (cs : Array Value) (hl : cs.size = size) (hx : a.eval x = .slice (some ⟨w.heap.size, 0, none⟩) 1 1) (h1 : ∀ u ∈ cs.toList, u.oneCell' = true)
    (h63 : n + 1 ≤ maxLen) (hbytes : (n + 1) * bytes ≤ 140737488355328) (hbase : base ≤ w.heap.size)
    (h : ∀ A' c' w', w'.ownsRow base e size (.slice A' (n + 1) c') (n + 1) (xs ++ cs.toList) → Pushed w w' A A' → wpListIn F fu P ops Q rest (a.put o.dst (.slice A' (n + 1) c')) w') : wpListIn F fu P ops Q (o :: rest) a (w.alloc (.cells cs e)) := by
  refine wpListIn_cat E hgd s x ho (hown.alloc _) hs (B := w.heap.size + 1) (C := some ⟨w.heap.size, 0, none⟩) (m := 1) (d := 1) (news := cs.toList) ?_ hx h1 h63 hbytes (by simp; omega) ?_
  · refine ⟨by simpa using hl, fun _ => ⟨_, _, rfl, by simp, fun j u hu => ?_⟩⟩
    rw [cell_of_row _ _ _ cs e (0, 0) (heap_alloc_new w _)]
    simpa using hu
  · intro A' c' w' h2 p
    refine h A' c' w' h2 ⟨⟨p.grown.os, p.grown.tape, p.grown.output, Nat.le_trans (by simp) p.grown.size, fun k hk hne => (p.grown.block k (by simp; omega) hne).trans (Below.heap_alloc w _ k hk)⟩, fun b hb => ?_⟩
    rcases p.at_ b hb with h3 | h3
    · exact .inl h3
    · simp at h3; right; omega
end

/-- The promise of an iterator that lays memory of its own between the rounds: At tells what lies behind what it hands over, N what it wants kept. -/
def GivesM {α : Type} (F : Fence) (n : Nat) (P : Program) (g : Nat) (lb : Array Value) (encs : α → Array Value) (At : α → World → Prop) (N : World → Prop) (S : List α → Prop) (w : World) : Prop :=
  ∀ (l : Nat) (J : List α → World → Prop) (W : World), Below w.heap.size w W → (∀ pre X X', J pre X → Below X.heap.size X X' → J pre X') → (∀ pre X, J pre X → N X) →
    (∀ pre x X, J pre X → At x X → (∃ xs, S (pre ++ x :: xs)) → YieldAt F (n - 1) P l (encs x) X fun e X' => e = .returned (.bool true) ∧ J (pre ++ [x]) X') →
    J [] W →
    CallsIn F n P g (#[.func (.yield l) #[] #[]] ++ lb) W fun e W' => (∃ v, e = .returned v) ∧ ∃ xs, S xs ∧ J xs W'

variable {F : Fence} {n : Nat} {P : Program}

theorem wpIn_range_mem {α : Type} {g : Operand} {ps : Array Tmp} {assign body : Code} {Q : Exit → Act → World → Prop} {a : Act} {w : World}
    (hro : F.round = none) (h1 : 1 ≤ n) {gf : Nat} {lb : Array Value} (hg : a.eval g = .func (.func gf) #[] lb) (hFg : F.fn gf) (eg : ∀ args w, (callFunc gf args).run P w = .ok (.enter gf args) w)
    {encs : α → Array Value} {At : α → World → Prop} {N : World → Prop} {S : List α → Prop} (hseq : GivesM F (n - 1) P gf lb encs At N S w) (hps : ∀ x, (encs x).size = ps.size)
    (I : List α → World → Prop) (hI : OwnFrom w.heap.size I) (hIb : ∀ pre X X', I pre X → Below X.heap.size X X' → I pre X') (hIN : ∀ pre X, I pre X → N X) (h0 : I [] w)
    (hAt : OwnFrom w.heap.size At) (Ax : α → Act → World → Prop) (hAx : ∀ a', OwnFrom w.heap.size (fun x => Ax x a'))
    (hassign : ∀ (l : Nat) (pre : List α) (x : α) (W : World) (K : Act → World → Prop), I pre W → At x W → (∀ a' W', Below W.heap.size W W' → I pre W' → At x W' → Ax x a' W' → K a' W') →
      assign.wpIn (F.inRound l) (n - 1 - 1) P (Exit.then K (fun _ _ _ => False)) { tmps := (ps.zip (encs x)).foldl (fun t (p, v) => t.setIfInBounds p v) a.tmps, defers := [] } W)
    (hbody : ∀ (l : Nat) (pre : List α) (x : α) (a' : Act) (W : World), I pre W → At x W → Ax x a' W → (∃ xs, S (pre ++ x :: xs)) →
      body.wpIn (F.inRound l) (n - 1 - 1) P (fun e _ W' => e = .normal ∧ KeepsFrom w.heap.size W W' ∧ I (pre ++ [x]) W') a' W)
    (hdone : ∀ (D : Nat) (xs : List α) (W : World), w.heap.size ≤ D → S xs → I xs W → W.heap[D]? = some (.deferred (some [])) → Q .normal { a with defers := { target := .collected D, args := #[] } :: a.defers } W) :
    (Code.rangeFunc g ps assign body).wpIn F n P Q a w := by
  refine wpIn_rangeFunc fun fn hfn => ?_
  rw [hro]
  generalize hB : w.heap.size = B at *
  let rdy : Loop := { state := .ready, pending := none, fn := fn, tmps := a.tmps, params := ps, assign := assign, body := body, defers := B }
  let bsy : Loop := { rdy with state := .busy }
  let W1 : World := (w.alloc (.deferred (some []))).alloc (.loop rdy)
  have e1 : (w.alloc (.deferred (some []))).heap.size = B + 1 := by rw [World.size_alloc, hB]
  have hloop : W1.heap[B + 1]? = some (.loop rdy) := by
    have := World.alloc_heap_new (w.alloc (.deferred (some []))) (.loop rdy); rwa [e1] at this
  have hdef : W1.heap[B]? = some (.deferred (some [])) := by
    have h2 : W1.heap[B]? = (w.alloc (.deferred (some []))).heap[B]? := Below.heap_alloc _ _ _ (by rw [e1]; omega)
    have h3 := World.alloc_heap_new w (.deferred (some [])); rw [hB] at h3
    exact h2.trans h3
  have hbel : Below w.heap.size w W1 := ((Below.refl _ w).alloc (Nat.le_refl _) _).alloc (by rw [World.size_alloc]; omega) _
  let y : Value := .func (.yield (B + 1)) #[] #[]
  refine ⟨B + 1, [{ target := .collected B, args := #[] }], W1, { target := .fn (.func gf) lb, args := #[y] }, W1, gf, #[y] ++ lb, W1, ?_, ?_, ?_, ?_, fun _ => h1, ?_⟩
  · have := run_enterLoop_outer (P := P) (w := w) fn a.tmps ps assign body
    rw [hB] at this; exact this
  · simp only [resolve, hg]
    simp [go_sem, y]
  · intro f' hf'
    simp [Target.leads] at hf'
    subst hf'; exact hFg
  · simp [invoke, go_sem, eg]
  · refine (hseq (B + 1) (fun pre X => I pre X ∧ X.heap[B + 1]? = some (.loop rdy) ∧ X.heap[B]? = some (.deferred (some []))) W1 (by rw [hB] at hbel; rw [hB]; exact hbel)
      (fun pre X X' h hb => ⟨hIb _ _ _ h.1 hb, (hb.block _ (Array.getElem?_eq_some_iff.1 h.2.1).1).trans h.2.1, (hb.block _ (Array.getElem?_eq_some_iff.1 h.2.2).1).trans h.2.2⟩)
      (fun pre X h => hIN pre X h.1) ?_ ⟨hI.alloc _ (hI.alloc _ h0), hloop, hdef⟩).mono ?_
    · rintro pre x X ⟨hi, hl, hd⟩ hat hx
      refine ⟨fn, _, assign, body, run_yield (P := P) (args := encs x) hl (hps x), roundIn_of_wpIn hfn (hassign _ pre x X _ hi hat fun a' W' hbW hi' hat' hax' => ?_)⟩
      have hl' : W'.heap[B + 1]? = some (.loop rdy) := (hbW.block _ (Array.getElem?_eq_some_iff.1 hl).1).trans hl
      have hd' : W'.heap[B]? = some (.deferred (some [])) := (hbW.block _ (Array.getElem?_eq_some_iff.1 hd).1).trans hd
      refine ⟨_, run_beginRound hl' rfl, ?_⟩
      have hltl : B + 1 < W'.heap.size := (Array.getElem?_eq_some_iff.1 hl').1
      have hl2 : (W'.putObj (B + 1) (.loop bsy)).heap[B + 1]? = some (.loop bsy) := World.putObj_heap_same hltl
      have hd2 : (W'.putObj (B + 1) (.loop bsy)).heap[B]? = some (.deferred (some [])) := (World.putObj_heap_other (by omega)).trans hd'
      refine wpIn_mono (hbody _ pre x a' _ (hI.putObj _ hi' (by omega) hl' rfl) (hAt.putObj _ hat' (by omega) hl' rfl) ((hAx a').putObj (s := x) _ hax' (by omega) hl' rfl) hx) ?_
      rintro e a3 X3 ⟨rfl, hk, hi3⟩
      have hl3 := hk.same _ _ (by omega) hl2 rfl
      have hd3 := hk.same _ _ (Nat.le_refl _) hd2 rfl
      exact ⟨_, _, run_endRound (P := P) none hl3, rfl, hI.putObj _ hi3 (by omega) hl3 rfl, World.putObj_heap_same (Array.getElem?_eq_some_iff.1 hl3).1, (World.putObj_heap_other (by omega)).trans hd3⟩
    · rintro e W2 ⟨⟨v, rfl⟩, xs, hS, hi, hl, hd⟩
      exact ⟨none, _, run_endLoop (P := P) hl (by simp [rdy]), hdone B xs _ (Nat.le_refl _) hS (hI.putObj _ hi (by omega) hl rfl) ((World.putObj_heap_other (by omega)).trans hd)⟩

/-- Marks that a function has set, each at a block of its own beyond B. -/
def marksOf (Ds : List Nat) : List Deferred := Ds.map fun D => { target := .collected D, args := #[] }
structure MarksOk (B : Nat) (Ds : List Nat) (w : World) : Prop where
  nodup : Ds.Nodup
  at_ : ∀ D ∈ Ds, B ≤ D ∧ w.heap[D]? = some (.deferred (some []))
theorem MarksOk.nil (B : Nat) (w : World) : MarksOk B [] w := ⟨List.nodup_nil, fun D hD => by simp at hD⟩
theorem MarksOk.lt {B : Nat} {Ds : List Nat} {w : World} (h : MarksOk B Ds w) {D : Nat} (hD : D ∈ Ds) : D < w.heap.size := (Array.getElem?_eq_some_iff.1 (h.at_ D hD).2).1
theorem MarksOk.keeps {B : Nat} {Ds : List Nat} {w w' : World} (h : MarksOk B Ds w) (hk : ∀ D, B ≤ D → w.heap[D]? = some (.deferred (some [])) → w'.heap[D]? = some (.deferred (some []))) : MarksOk B Ds w' :=
  ⟨h.nodup, fun D hD => ⟨(h.at_ D hD).1, hk D (h.at_ D hD).1 (h.at_ D hD).2⟩⟩
theorem MarksOk.below {B : Nat} {Ds : List Nat} {w w' : World} (h : MarksOk B Ds w) (hb : Below w.heap.size w w') : MarksOk B Ds w' :=
  h.keeps fun D _ hD => (hb.block D (Array.getElem?_eq_some_iff.1 hD).1).trans hD
theorem MarksOk.cons {B D : Nat} {Ds : List Nat} {w : World} (h : MarksOk B Ds w) (hB : B ≤ D) (hn : D ∉ Ds) (hD : w.heap[D]? = some (.deferred (some []))) : MarksOk B (D :: Ds) w :=
  ⟨List.nodup_cons.2 ⟨hn, h.nodup⟩, fun E hE => by
    rcases List.mem_cons.1 hE with rfl | hE
    · exact ⟨hB, hD⟩
    · exact h.at_ E hE⟩
/-- A function leaves with its marks: what holds of the world and abides that a mark's block is shut, holds behind. -/
theorem leaves_marks {fn : Func} {tmps : Array Value} {R : Ending → World → Prop} {B : Nat} (Pw : World → Prop) (hP : ∀ W D, Pw W → B ≤ D → W.heap[D]? = some (.deferred (some [])) → Pw (W.putObj D (.deferred none)))
    (hend : ∀ W, Pw W → LeavesIn F n P fn tmps R [] .returning W) : ∀ (Ds : List Nat) (w : World), MarksOk B Ds w → Pw w → LeavesInM F n P fn tmps R (marksOf Ds) .returning w
  | [], w, _, hp => hend w hp
  | D :: Ds, w, hm, hp => by
    have hD := hm.at_ D (by simp)
    have hnd := List.nodup_cons.1 hm.nodup
    refine ⟨by simp, .inl ⟨D, _, rfl, run_takeDeferred hD.2, ?_⟩⟩
    refine leaves_marks Pw hP hend Ds _ ⟨hnd.2, fun E hE => ?_⟩ (hP w D hp hD.1 hD.2)
    have hE2 := hm.at_ E (by simp [hE])
    exact ⟨hE2.1, (World.putObj_heap_other (by rintro rfl; exact hnd.1 hE)).trans hE2.2⟩
end Go.Proofs.YtpdnipabaimofaaGreat

namespace Go.Proofs.YtpdnipabaimofaaGreat
open Go.RowKit Go.Shelf

/-- A worker. -/
def wkObj (q : QuA) (a : RwA) (M : Option Addr) (nm cm : Nat) : Obj :=
  .cells #[.int .i64 q.kind, .int .i64 q.src, .int .i64 q.dst, .slice q.W q.nw q.cw, .int .i64 q.radius, .int .i64 q.most, .slice a.A1 a.n1 a.c1, .slice a.A2 a.n2 a.c2, .slice a.A3 a.n3 a.c3, .slice a.A4 a.n4 a.c4, .slice M nm cm, .int .i64 0] 125
/-- What the iterator wants kept. -/
structure WkAt (n₀ bw bk bm : Nat) (q : QuA) (a : RwA) (M : Option Addr) (nm cm : Nat) (ms : List Msg) (X : World) : Prop where
  w_ : X.heap[bw]? = some (.cells #[.pointer (some ⟨bk, 0, none⟩)] 122 (0, 0))
  k_ : X.heap[bk]? = some (wkObj q a M nm cm)
  r_ : RwIn X n₀ a
  m_ : X.ownsRow bm 79 4 (.slice M nm cm) nm (mv ms)
  n_ : n₀ ≤ X.heap.size
abbrev WkE := Msg × Option Addr × Nat × Nat
abbrev wkEncs (x : WkE) : Array Value := #[.agg #[.int .i64 x.1.slot, .int .i64 x.1.dir, .int .i64 x.1.v, .int .i64 x.1.d], .slice x.2.1 x.2.2.1 x.2.2.2]
/-- What lies behind what is handed over. -/
def WkSent (n₁ : Nat) (kind radius : Int) (r : Rws) (x : WkE) (W : World) : Prop :=
  x.2.2.1 = (nxM kind radius r x.1).length ∧ W.ownsRow n₁ 79 4 (.slice x.2.1 x.2.2.1 x.2.2.2) x.2.2.1 (mv (nxM kind radius r x.1))
def goodM (n : Nat) (x : Msg) : Prop := (x.dir = 0 ∨ x.dir = 1) ∧ (0 ≤ x.v ∧ x.v < (n : Int)) ∧ (0 ≤ x.d ∧ x.d ≤ 200)
section
variable {n₀ bw bk bm nm cm : Nat} {q : QuA} {a : RwA} {M : Option Addr} {ms : List Msg} {X X' : World}
theorem WkAt.below (h : WkAt n₀ bw bk bm q a M nm cm ms X) (hB : Below X.heap.size X X') : WkAt n₀ bw bk bm q a M nm cm ms X' :=
  ⟨(hB.block _ (Array.getElem?_eq_some_iff.1 h.w_).1).trans h.w_, (hB.block _ (Array.getElem?_eq_some_iff.1 h.k_).1).trans h.k_, h.r_.below (hB.mono h.n_), own_below h.m_ hB, Nat.le_trans h.n_ hB.size⟩
theorem WkAt.kc (h : WkAt n₀ bw bk bm q a M nm cm ms X) : (X.cell? ⟨bk, 0, none⟩ = some (.int .i64 q.kind) ∧ X.cell? ⟨bk, 1, none⟩ = some (.int .i64 q.src) ∧ X.cell? ⟨bk, 2, none⟩ = some (.int .i64 q.dst) ∧ X.cell? ⟨bk, 3, none⟩ = some (.slice q.W q.nw q.cw) ∧ X.cell? ⟨bk, 4, none⟩ = some (.int .i64 q.radius) ∧ X.cell? ⟨bk, 5, none⟩ = some (.int .i64 q.most)) ∧
    (X.cell? ⟨bk, 6, none⟩ = some (.slice a.A1 a.n1 a.c1) ∧ X.cell? ⟨bk, 7, none⟩ = some (.slice a.A2 a.n2 a.c2) ∧ X.cell? ⟨bk, 8, none⟩ = some (.slice a.A3 a.n3 a.c3) ∧ X.cell? ⟨bk, 9, none⟩ = some (.slice a.A4 a.n4 a.c4)) ∧ X.cell? ⟨bk, 10, none⟩ = some (.slice M nm cm) ∧ X.cell? ⟨bk, 11, none⟩ = some (.int .i64 0) := by
  refine ⟨⟨?_, ?_, ?_, ?_, ?_, ?_⟩, ⟨?_, ?_, ?_, ?_⟩, ?_, ?_⟩ <;> · rw [Lib.cell_of_heap h.k_]; rfl
theorem WkAt.wc (h : WkAt n₀ bw bk bm q a M nm cm ms X) : X.cell? ⟨bw, 0, none⟩ = some (.pointer (some ⟨bk, 0, none⟩)) := by rw [Lib.cell_of_heap h.w_]; rfl
end

theorem work_c (bk : Nat) (w : World) :
    Calls Tryz.prog 56 #[.pointer (some ⟨bk, 0, none⟩)] w fun e w' => e = .returned (.func (.func 91) #[] #[.pointer (some ⟨w.heap.size, 0, none⟩)]) ∧ w' = w.alloc (.cells #[.pointer (some ⟨bk, 0, none⟩)] 122) := by
  go_enter Tryz.func56, Tryz.ntmps56
  go_wp2
  go_ret
  exact ⟨rfl, rfl⟩

set_option maxRecDepth 100000 in
set_option maxHeartbeats 4000000 in
theorem work_gives (n : Nat) (hn : 1 ≤ n) (n₀ n₁ bw bk bm : Nat) (q : QuA) (a : RwA) (M : Option Addr) (nm cm : Nat) (ms : List Msg) (w : World) (hc : chkR a.r) (hms : ∀ m ∈ ms, goodM a.r.n m) (hw : WkAt n₀ bw bk bm q a M nm cm ms w) (hn1 : n₁ ≤ n₀) :
    GivesM Fence.wide n Tryz.prog 91 #[.pointer (some ⟨bw, 0, none⟩)] wkEncs (WkSent n₁ q.kind q.radius a.r) (WkAt n₀ bw bk bm q a M nm cm ms) (fun xs => xs.map Prod.fst = ms) w := by
  intro l J W hW hJb hJN hY h0
  have hml := Lib.hid (own_reads hw.m_).mail_len
  have HC := Lib.hid hc
  have HMS := Lib.hid hms
  have hN := hJN _ _ h0
  have hcap : nm ≤ 9223372036854775807 := by have h := own_cap hw.m_; unfold maxLen at h; omega
  have c0 := hN.wc
  have c1 := hN.kc.2.2.1
  have HJB := Lib.hid hJb
  have HJN := Lib.hid hJN
  clear hN hw hc hms hJb hJN hW
  refine callsIn_of_wp Tryz.func91 rfl trivial ?_ rfl
  simp only [Tryz.ntmps91, List.size_toArray, List.length_cons, List.length_nil, Nat.reduceAdd, Nat.reduceSub, Array.replicate_succ, Array.replicate_zero, List.push_toArray, List.append_toArray, List.nil_append, List.cons_append]
  gi_wp2_with (fail)
  clear c0 c1
  gi_loopw [13] (fun i wr => ∃ (j : Nat) (pre : List WkE), j ≤ nm ∧ i = .int .i64 j ∧ Hid (pre.map Prod.fst = ms.take j) ∧ J pre wr) (fun i _ => nm - (intOf i).toNat)
  case atStart => exact ⟨0, [], Nat.zero_le _, rfl, rfl, h0⟩
  case round =>
    clear h0
    obtain ⟨j, pre, hj, rfl, hp, hJ⟩ := hrel
    have hs1 : n₁ ≤ wr.heap.size := Nat.le_trans hn1 (HJN.out _ _ hJ).n_
    by_cases hlt : j < nm
    · have hN := HJN.out _ _ hJ
      obtain ⟨b, o, x, rfl, hx, d0, d1, d2, d3⟩ := (own_reads hN.m_).mail_at hlt
      have HX := Lib.hid hx.out
      have f1 : (0 : Int) ≤ (j : Int) := by omega
      have f2 : (j : Int) < (nm : Int) := by omega
      have HBW := Lib.hid (below_two wr (.cells #[.int .i64 x.slot, .int .i64 x.dir, .int .i64 x.v, .int .i64 x.d] 79) (.cells #[.int .i64 x.slot, .int .i64 x.dir, .int .i64 x.v, .int .i64 x.d] 121))
      have HN := Lib.hid hN
      have HJ := Lib.hid hJ
      clear hN hx hJ
      gi_wp2_with (fail)
      obtain ⟨h1, h2⟩ : ((wr.alloc (.cells #[.int .i64 x.slot, .int .i64 x.dir, .int .i64 x.v, .int .i64 x.d] 79)).alloc (.cells #[.int .i64 x.slot, .int .i64 x.dir, .int .i64 x.v, .int .i64 x.d] 121)).heap[wr.heap.size + 1]? = some (stBox x) ∧
          wr.heap.size + 1 < ((wr.alloc (.cells #[.int .i64 x.slot, .int .i64 x.dir, .int .i64 x.v, .int .i64 x.d] 79)).alloc (.cells #[.int .i64 x.slot, .int .i64 x.dir, .int .i64 x.v, .int .i64 x.d] 121)).heap.size := by
        refine ⟨?_, by simp⟩
        have := (wr.alloc (.cells #[.int .i64 x.slot, .int .i64 x.dir, .int .i64 x.v, .int .i64 x.d] 79)).alloc_heap_new (stBox x)
        rw [World.size_alloc] at this
        exact this
      generalize (wr.alloc (.cells #[.int .i64 x.slot, .int .i64 x.dir, .int .i64 x.v, .int .i64 x.d] 79)).alloc (.cells #[.int .i64 x.slot, .int .i64 x.dir, .int .i64 x.v, .int .i64 x.d] 121) = wx at *
      clear d0 d1 d2 d3 f1 f2
      have HND : Hid (WkAt n₀ bw bk bm q a (some ⟨b, o, none⟩) nm cm ms wx.drew) := HN.out.below HBW.out.drew
      have HBD : Hid (Below wr.heap.size wr wx.drew) := HBW.out.drew
      have h1d : wx.drew.heap[wr.heap.size + 1]? = some (stBox x) := h1
      have HNW : Hid (WkAt n₀ bw bk bm q a (some ⟨b, o, none⟩) nm cm ms wx) := HN.out.below HBW.out
      have c0 := HNW.out.wc
      obtain ⟨⟨k0, k1, k2, k3, k4, k5⟩, ⟨k6, k7, k8, k9⟩, -, -⟩ := HNW.out.kc
      obtain ⟨x0, x1, x2, x3⟩ : wx.cell? ⟨wr.heap.size + 1, 0, none⟩ = some (.int .i64 x.slot) ∧ wx.cell? ⟨wr.heap.size + 1, 1, none⟩ = some (.int .i64 x.dir) ∧ wx.cell? ⟨wr.heap.size + 1, 2, none⟩ = some (.int .i64 x.v) ∧ wx.cell? ⟨wr.heap.size + 1, 3, none⟩ = some (.int .i64 x.d) := by
        refine ⟨?_, ?_, ?_, ?_⟩ <;> · rw [Lib.cell_of_heap h1]; rfl
      have hgm := HMS.out x (List.mem_of_getElem? HX.out)
      have HNX : Hid (Calls Tryz.prog 92 #[quVal q, rwVal a, mval x] wx.drew fun e w' => ∃ A' k c', e = .returned (.tuple #[.slice A' k c', .int .i64 0]) ∧ k = (nxM q.kind q.radius a.r x).length ∧ w'.ownsRow wx.drew.heap.size 79 4 (.slice A' k c') k (mv (nxM q.kind q.radius a.r x)) ∧ Below wx.drew.heap.size wx.drew w') :=
        nextP_c q a x wx.drew (HND.out.r_.more HND.out.n_) HC.out hgm.1 hgm.2.1 hgm.2.2
      have H1D := Lib.hid h1d
      have H2D : Hid (wr.heap.size + 1 < wx.drew.heap.size) := h2
      clear hgm h1 h2 h1d
      refine wpIn_wide.2 ?_
      obtain ⟨L, hL⟩ : ∃ L, L = (nxM q.kind q.radius a.r x).length := ⟨_, rfl⟩
      have HNL : Hid (Calls Tryz.prog 92 #[quVal q, rwVal a, mval x] wx.drew fun e w' => ∃ A' c', e = .returned (.tuple #[.slice A' L c', .int .i64 0]) ∧ w'.ownsRow wx.drew.heap.size 79 4 (.slice A' L c') L (mv (nxM q.kind q.radius a.r x)) ∧ Below wx.drew.heap.size wx.drew w') :=
        Calls.mono HNX.out fun e w' ⟨A', k', c', h1, h2, h3, h4⟩ => by
          rw [← hL] at h2
          subst h2
          exact ⟨A', c', h1, h3, h4⟩
      have HL := Lib.hid hL
      clear hL
      refine wp_mono (Q := fun e a' w2 => match e with
        | .normal => ∃ A' c', a' = { tmps := #[.func (.yield l) #[] #[], .pointer (some ⟨bw, 0, none⟩), undef, undef, .pointer (some ⟨wr.heap.size, 0, none⟩), .pointer (some ⟨wr.heap.size + 1, 0, none⟩), .slice A' L c', .int .i64 0,
            .pointer (some ⟨bk, 0, none⟩), .pointer (some ⟨bk, 0, none⟩), .pointer (some ⟨bk, 10, none⟩), .slice (some ⟨b, o, none⟩) nm cm, .int .i64 nm, .int .i64 j, .bool true, .pointer (some ⟨b, o + j * 4, none⟩),
            .agg #[.int .i64 x.slot, .int .i64 x.dir, .int .i64 x.v, .int .i64 x.d], .pointer (some ⟨wr.heap.size, 0, none⟩), .agg #[.int .i64 x.slot, .int .i64 x.dir, .int .i64 x.v], .pointer (some ⟨wr.heap.size, 3, none⟩), .int .i64 x.d,
            .agg #[.int .i64 x.slot, .int .i64 x.dir, .int .i64 x.v, .int .i64 x.d], .tuple #[.slice A' L c', .int .i64 0], .pointer (some ⟨bk, 0, none⟩), .pointer (some ⟨bk, 0, none⟩), .pointer (some ⟨bk, 0, none⟩),
            .agg #[.int .i64 q.kind, .int .i64 q.src, .int .i64 q.dst, .slice q.W q.nw q.cw, .int .i64 q.radius, .int .i64 q.most], .pointer (some ⟨bk, 0, none⟩), .pointer (some ⟨bk, 0, none⟩), .pointer (some ⟨bk, 6, none⟩),
            .agg #[.slice a.A1 a.n1 a.c1, .slice a.A2 a.n2 a.c2, .slice a.A3 a.n3 a.c3, .slice a.A4 a.n4 a.c4], .agg #[.int .i64 x.slot, .int .i64 x.dir, .int .i64 x.v, .int .i64 x.d], .tuple #[.slice A' L c', .int .i64 0], .slice A' L c', .int .i64 0,
            u35, u36, u37, u38, u39, u40, u41, u42, u43, u44, u45], defers := [] } ∧ w2.ownsRow wx.drew.heap.size 79 4 (.slice A' L c') L (mv (nxM q.kind q.radius a.r x)) ∧ Below wx.drew.heap.size wx.drew w2
        | _ => False) ?_ ?_
      · go_region_law (go_simp; go_at_call 92; refine Calls.mono HNL.out ?_; rintro e w2 ⟨A', c', rfl, ho', hB'⟩)
        all_goals exact ⟨A', c', rfl, ho', hB'⟩
      rintro (_ | _ | _ | _ | _ | _) a' w2 hq
      case normal =>
        obtain ⟨A', c', rfl, ho', hB'⟩ := hq
        clear c0 k0 k1 k2 k3 k4 k5 k6 k7 k8 k9 x0 x1 x2 x3
        have HB2 := Lib.hid (HBD.out.trans (hB'.mono HBD.out.size))
        have HJ2 := Lib.hid (HJB.out pre wr w2 HJ.out HB2.out)
        have HAT : Hid (WkSent n₁ q.kind q.radius a.r (x, A', L, c') w2) := ⟨HL.out, own_more ho' (Nat.le_trans hs1 HBD.out.size)⟩
        have h1x : w2.heap[wr.heap.size + 1]? = some (stBox x) := (hB'.block _ H2D.out).trans H1D.out
        have hex : ∃ xs : List WkE, (pre ++ (x, A', L, c') :: xs).map Prod.fst = ms := by
          refine ⟨(ms.drop (j + 1)).map fun m => (m, none, 0, 0), ?_⟩
          rw [List.map_append, List.map_cons, hp.out, List.map_map]
          have e1 : (List.map (Prod.fst ∘ fun m : Msg => ((m, none, 0, 0) : WkE)) (ms.drop (j + 1))) = ms.drop (j + 1) := by
            rw [show (Prod.fst ∘ fun m : Msg => ((m, none, 0, 0) : WkE)) = id from rfl, List.map_id]
          rw [e1]
          obtain ⟨h1, h2⟩ := List.getElem?_eq_some_iff.1 HX.out
          rw [← h2, ← List.drop_eq_getElem_cons h1, List.take_append_drop]
        obtain ⟨f1, t1, a1, b1, hy, hR⟩ := hY pre (x, A', L, c') w2 HJ2.out HAT.out hex
        have hpn : Hid ((pre ++ [((x, A', L, c') : WkE)]).map Prod.fst = ms.take (j + 1)) := by
          show _ = _
          rw [List.map_append, hp.out, List.take_add_one, HX.out]
          rfl
        dsimp only [wkEncs] at hy
        obtain ⟨x0, x1, x2, x3⟩ : w2.cell? ⟨wr.heap.size + 1, 0, none⟩ = some (.int .i64 x.slot) ∧ w2.cell? ⟨wr.heap.size + 1, 1, none⟩ = some (.int .i64 x.dir) ∧ w2.cell? ⟨wr.heap.size + 1, 2, none⟩ = some (.int .i64 x.v) ∧ w2.cell? ⟨wr.heap.size + 1, 3, none⟩ = some (.int .i64 x.d) := by
          refine ⟨?_, ?_, ?_, ?_⟩ <;> · rw [Lib.cell_of_heap h1x]; rfl
        clear hex hB' ho' h1x
        dsimp only
        gi_wp2_with (fail)
        refine hR.mono ?_
        rintro e w3 ⟨rfl, hJ3⟩
        clear x0 x1 x2 x3
        gi_wp2_with (fail)
        go_roundw
        case rel => exact ⟨j + 1, _, by omega, by go_num, hpn, hJ3⟩
        case measure => simp [intOf]; omega
      all_goals exact hq.elim
    · obtain rfl : j = nm := by omega
      have hend : Hid (pre.map Prod.fst = ms) := by show _ = _; rw [hp.out, List.take_of_length_le (by rw [hml.out]; exact Nat.le_refl _)]
      gi_wp2_with (fail)
      go_end0
      exact ⟨⟨_, rfl⟩, pre, hend.out, hJ⟩
end Go.Proofs.YtpdnipabaimofaaGreat
