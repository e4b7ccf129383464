/-
  job.Run by a budget of nine: the walk.
-/
import Derived.Test.YtpdnipabaimofaaGreatJ29
namespace Go.Proofs.YtpdnipabaimofaaGreat
open Go Go.RowKit Go.Shelf Go.Lib
attribute [local go_sem] Oper.semAt_some

set_option maxRecDepth 100000 in
set_option maxHeartbeats 8000000 in
theorem jobRun9_c (Good : Nat → List Msg → List Msg → Value → Bool → World → Prop) (Ok Er : Prop) (q : QuA) (a : RwA) (Al : Option Addr) (nl cl k : Nat) (Ap : Option Addr) (np cp : Nat) (ps : List Int) (w : World) (hr : RwIn w w.heap.size a) (hp : Reads w w.heap.size 1 Ap np (iv ps)) (hnp : np ≤ maxLen) (hk : 1 ≤ k ∧ k ≤ 16) (hrn : a.r.n ≤ 8) (hpre : RunPre Good Ok Er q a Al nl cl k Ap np cp ps w) :
    Calls Tryz.prog 7 #[quVal q, rwVal a, .slice Al nl cl, .int .i64 (k : Int), .int .i64  9, .slice Ap np cp] w fun e w' => (Er ∧ RunErr w e w') ∨ RunEnd Good q a w e w' := by
  show Calls Tryz.prog 7 #[.agg #[.int .i64 q.kind, .int .i64 q.src, .int .i64 q.dst, .slice q.W q.nw q.cw, .int .i64 q.radius, .int .i64 q.most], .agg #[.slice a.A1 a.n1 a.c1, .slice a.A2 a.n2 a.c2, .slice a.A3 a.n3 a.c3, .slice a.A4 a.n4 a.c4], .slice Al nl cl, .int .i64 (k : Int), .int .i64  9, .slice Ap np cp] w _
  have hb := rbAt_new w q a  9
  unfold quBox rwBox ansBox at hb
  have HB := Lib.hid hb
  have HR := Lib.hid hr
  have HP := Lib.hid hp
  have HPRE := Lib.hid hpre
  clear hb hr hp hpre
  rw [← callsIn_wide (n := 10)]
  refine callsIn_of_wp_marks Tryz.func7 rfl trivial ?_ rfl
  simp only [Tryz.ntmps7, List.size_toArray, List.length_cons, List.length_nil, Nat.reduceAdd, Nat.reduceSub, Array.replicate_succ, Array.replicate_zero, List.push_toArray, List.append_toArray, List.nil_append, List.cons_append]
  refine wpIn_wide.2 ?_
  obtain ⟨Qm, hQm⟩ : ∃ Qm, Qm = bodyPostM Fence.wide 10 Tryz.prog Tryz.f7 (fun e w' => (Er ∧ RunErr w e w') ∨ RunEnd Good q a w e w') := ⟨_, rfl⟩
  rw [← hQm]
  have HQ := Lib.hid hQm
  clear hQm
  go_wp2_with (fail)
  refine (HPRE.out.chk _ HB.out.bel).mono ?_
  rintro e w1 ⟨c, rfl, hcok, her, hB1⟩
  have HER := Lib.hid her
  clear her
  have HB1 := Lib.hid (HB.out.step hB1)
  have HCOK := Lib.hid hcok
  clear hcok hB1 HB
  go_wp2_with (fail)
  refine (home_c 0 (k : Int) w1).mono ?_
  rintro e w2 ⟨rfl, hB2⟩
  rw [decide_eq_true (show homeOk 0 (k : Int) from ⟨by decide, by omega, by omega⟩)]
  have HB2 := Lib.hid (HB1.out.step hB2)
  clear hB2 HB1
  have hb2 := HB2.out.bc
  obtain ⟨⟨o0, o1, o2⟩, o3, o4, ⟨f0, f1, f2⟩, f3, f4⟩ := HB2.out.oc
  by_cases hc : c = 0
  · subst hc
    have HOK := Lib.hid (HCOK.out rfl)
    clear HCOK HER
    go_wp2_with (fail)
    have HB3 : Hid (RbAt w q a  9 w2.drew) := HB2.out.step (Below.refl _ _).drew
    go_region_held3 (fun X : World => ((X.cell? ⟨w.heap.size, 0, none⟩ = some (.int .i64 q.kind) ∧ X.cell? ⟨w.heap.size, 1, none⟩ = some (.int .i64 q.src) ∧ X.cell? ⟨w.heap.size, 2, none⟩ = some (.int .i64 q.dst) ∧ X.cell? ⟨w.heap.size, 3, none⟩ = some (.slice q.W q.nw q.cw) ∧ X.cell? ⟨w.heap.size, 4, none⟩ = some (.int .i64 q.radius) ∧ X.cell? ⟨w.heap.size, 5, none⟩ = some (.int .i64 q.most)) ∧ X.cell? ⟨w.heap.size + 1, 0, none⟩ = some (.slice a.A1 a.n1 a.c1) ∧ X.cell? ⟨w.heap.size + 1, 1, none⟩ = some (.slice a.A2 a.n2 a.c2) ∧ X.cell? ⟨w.heap.size + 1, 2, none⟩ = some (.slice a.A3 a.n3 a.c3) ∧ X.cell? ⟨w.heap.size + 1, 3, none⟩ = some (.slice a.A4 a.n4 a.c4)))
      (first | exact HB3.out.qc | exact HB4.out.qc | exact (HB4.out.step (below_one _ _)).qc)
      ((first
        | (go_at_call 12; refine (start_c q 0 _).mono ?_; rintro e w4 ⟨Am, nm, cm, rfl, hnm, hom, hB4⟩; have HB4 := Lib.hid (HB3.out.step hB4); have HOM := Lib.hid hom; have HNM := Lib.hid hnm; clear hom hnm hB4)))
    clear HB2 HB3 hb2 o0 o1 o2 o3 o4 f0 f1 f2 f3 f4
    go_wp2_with (fail)
    refine (steps_c w4.heap.size _).mono ?_
    rintro e w5 ⟨rfl, hw5⟩
    simp only [World.size_alloc]
    obtain ⟨hc, hs, hd, hkd, hrad⟩ := HPRE.out.ok HOK.out
    obtain ⟨hra, hnb, hsz, hB5⟩ := runAt_start q a Al nl cl k Ap np cp ps w w4 Am nm cm HB4.out.bel HR.out HP.out (own_reads HOM.out) (fun x h => (own_lt HOM.out x h).2) hkd hrad w5 hw5
    have hrb := HB4.out.step hB5
    have hl4 := HB4.out.lt
    have HB5 := Lib.hid hrb
    have HRA := Lib.hid hra
    have HNB := Lib.hid hnb
    have HSZ := Lib.hid hsz
    clear hw5 hrb hra hnb hB5 HOM HNM HB4 hsz
    go_wp2_with (fail)
    have HG := Lib.hid HPRE.out.good
    refine (wpIn_wide (n := 10)).1 ?_
    refine wpIn_range_go (β := Rd) (br := w4.heap.size) rfl (by omega) (gf := 23) (lb := #[.pointer (some ⟨w4.heap.size + 1 + 1, 0, none⟩)]) rfl trivial (enters_of Tryz.func23 (by kernel_rfl) rfl)
      (encs := fun x => #[x.ans, .bool x.r]) (At := fun t x X => t ≤ 190 ∧ RunAt w.heap.size (w4.heap.size + 1 + 1) w4.heap.size q a Al nl cl k Ap np cp ps (t + 1) x.S x.M x.As x.ns x.cs x.Am x.nm x.cm X ∧ Good w5.heap.size x.S x.M x.ans x.r X) (more := fun x => !x.r)
      (St := fun X => RunAt w.heap.size (w4.heap.size + 1 + 1) w4.heap.size q a Al nl cl k Ap np cp ps 0 [] (startM q.kind q.src q.dst 0) none 0 0 Am nm cm X)
      (by rw [HSZ.out]; omega)
      (I := fun t X => RbAt w q a  9 X ∧ X.heap[w4.heap.size + 1]? = some (.cells #[.int .i64 (t : Int)] 3 (0, 0)) ∧ w5.heap.size ≤ X.heap.size)
      (fun l I' Jx' W1 hIb hIr hII hY hI0 hS0 => stepsGo_c 9 (by omega) w.heap.size (w4.heap.size + 1 + 1) w4.heap.size q a Al nl cl k Ap np cp ps hc hk hs hd hnp (by omega) (Good w5.heap.size) I' (fun X S M t As ns cs Am nm cm hR ht ⟨t', hI⟩ => HPRE.out.done HOK.out w5.heap.size _ _ X S M t As ns cs Am nm cm (hII _ _ hI).2.2 (hII _ _ hI).1.bel hR ht) (fun S ans X => HG.out.end_) l Jx' hIb hIr
        (fun t S M As ns cs Am nm cm X ans r ht hI hR hgd => (hY t ⟨S, M, As, ns, cs, Am, nm, cm, ans, r⟩ X hI ⟨ht, hR, hgd⟩).mono fun e X' h => h.elim (fun ⟨h1, h2, h3, h4⟩ => .inl ⟨by simpa using h1, h2, h3, h4.2.1⟩) (fun ⟨h1, h2, h3⟩ => .inr ⟨by simpa using h1, h2, h3⟩)) W1 _ _ _ _ _ _ _ _ hS0 hI0)
      (fun _ => rfl)
      (fun X => RunFins Good q a w w5.heap.size X)
      (fun x a' X => ∃ (bb : Nat) (fd : Bool) (d : Int) (A : Option Addr) (n c : Nat), x.ans = .agg #[.bool fd, .int .i64 d, .slice A n c] ∧ a' = { tmps := #[Value.agg #[Value.int IntKind.i64 q.kind, Value.int IntKind.i64 q.src, Value.int IntKind.i64 q.dst, Value.slice q.W q.nw q.cw, Value.int IntKind.i64 q.radius, Value.int IntKind.i64 q.most], Value.agg #[Value.slice a.A1 a.n1 a.c1, Value.slice a.A2 a.n2 a.c2, Value.slice a.A3 a.n3 a.c3, Value.slice a.A4 a.n4 a.c4], Value.slice Al nl cl, Value.int IntKind.i64 (k : Int), Value.int IntKind.i64  9, Value.slice Ap np cp, Value.pointer (some { block := w.heap.size, off := 0 }), Value.pointer (some { block := w.heap.size + 1, off := 0 }), undef, undef, Value.pointer (some { block := w.heap.size + 1 + 1, off := 0 }), undef, Value.pointer (some { block := w.heap.size + 1 + 1 + 1, off := 0 }), Value.pointer (some { block := w.heap.size + 1 + 1 + 1 + 1, off := 0 }), Value.pointer (some { block := w.heap.size + 1 + 1 + 1 + 1 + 1, off := 0 }), Value.int IntKind.i64 0, Value.int IntKind.i64 (homeI 0 (k : Int)), Value.bool true, Value.pointer (some { block := w4.heap.size, off := 0 }), Value.pointer (some { block := w4.heap.size + 1, off := 0 }), Value.pointer (some ⟨bb, 0, none⟩), Value.bool x.r, Value.agg #[Value.int IntKind.i64 q.kind, Value.int IntKind.i64 q.src, Value.int IntKind.i64 q.dst, Value.slice q.W q.nw q.cw, Value.int IntKind.i64 q.radius, Value.int IntKind.i64 q.most], Value.agg #[Value.slice a.A1 a.n1 a.c1, Value.slice a.A2 a.n2 a.c2, Value.slice a.A3 a.n3 a.c3, Value.slice a.A4 a.n4 a.c4], Value.int IntKind.i64 0, Value.tuple #[Value.int IntKind.i64 (homeI 0 (k : Int)), Value.bool true], Value.int IntKind.i64 (k : Int), Value.tuple #[Value.int IntKind.i64 (homeI 0 (k : Int)), Value.bool true], Value.int IntKind.i64 (homeI 0 (k : Int)), Value.bool true, Value.int IntKind.i64 0, Value.bool true, Value.bool true, Value.bool true, Value.bool false, Value.bool false, Value.int IntKind.i64  9, Value.bool false, Value.bool false, Value.bool false, Value.int IntKind.i64 0, Value.bool false, undef, undef, Value.agg #[Value.int IntKind.i64 q.kind, Value.int IntKind.i64 q.src, Value.int IntKind.i64 q.dst, Value.slice q.W q.nw q.cw, Value.int IntKind.i64 q.radius, Value.int IntKind.i64 q.most], Value.agg #[Value.slice a.A1 a.n1 a.c1, Value.slice a.A2 a.n2 a.c2, Value.slice a.A3 a.n3 a.c3, Value.slice a.A4 a.n4 a.c4], Value.slice Al nl cl, Value.int IntKind.i64 (k : Int), Value.slice Ap np cp, Value.agg #[Value.int IntKind.i64 q.kind, Value.int IntKind.i64 q.src, Value.int IntKind.i64 q.dst, Value.slice q.W q.nw q.cw, Value.int IntKind.i64 q.radius, Value.int IntKind.i64 q.most], Value.slice Am nm cm, Value.agg #[Value.int IntKind.i64 q.kind, Value.int IntKind.i64 q.src, Value.int IntKind.i64 q.dst, Value.slice q.W q.nw q.cw, Value.int IntKind.i64 q.radius, Value.int IntKind.i64 q.most, Value.slice a.A1 a.n1 a.c1, Value.slice a.A2 a.n2 a.c2, Value.slice a.A3 a.n3 a.c3, Value.slice a.A4 a.n4 a.c4, Value.slice Al nl cl, Value.int IntKind.i64 (k : Int), Value.slice Ap np cp, Value.slice none 0 0, Value.slice Am nm cm], Value.pointer (some { block := w4.heap.size, off := 0 }), Value.pointer (some { block := w4.heap.size, off := 0 }), Value.func (Fn.func 23) #[] #[Value.pointer (some ⟨w4.heap.size + 1 + 1, 0, none⟩)], Value.agg #[.bool fd, .int .i64 d, .slice A n c], Value.bool x.r, undef, undef, undef, undef, undef, undef, undef, undef, undef, undef], defers := [] } ∧ X.heap[bb]? = some (ansBox fd d A n c) ∧ w5.heap.size ≤ bb)
      ?hIb ?hIr ?hI ?hJ ?hSt ?hAt ?hMid ?h0 HRA.out ?assign ?body ?stop
    case hIb =>
      rintro t X X' ⟨h1, h2, h3⟩ hB
      exact ⟨h1.step hB, (hB.block _ (Array.getElem?_eq_some_iff.1 h2).1).trans h2, Nat.le_trans h3 hB.size⟩
    case hIr =>
      rintro t X X' ⟨h1, h2, h3⟩ hg
      exact ⟨h1.far hg (fun g e => by injection e with e; omega), (hg.block _ (Array.getElem?_eq_some_iff.1 h2).1 (fun e => by injection e with e; omega)).trans h2, Nat.le_trans h3 hg.size⟩
    case hI =>
      rintro t X X' row ⟨h1, h2, h3⟩ hg hr
      have h5 := HSZ.out
      exact ⟨h1.far hg (fun g e => by have := (hr g e).1; omega), (hg.block _ (Array.getElem?_eq_some_iff.1 h2).1 (fun e => by have := (hr _ e.symm).1; omega)).trans h2, Nat.le_trans h3 hg.size⟩
    case hJ =>
      rintro _ X X' row ⟨S, M, t, fd, d, A, n, c, h⟩ hg hr
      exact ⟨S, M, t, fd, d, A, n, c, h.own HG.out hg hr⟩
    case hSt =>
      rintro _ X X' row h hg hr
      have h5 := HSZ.out
      exact h.own hg (fun g e => ⟨by have := (hr g e).1; omega, (hr g e).2⟩)
    case hAt =>
      rintro ⟨t, x⟩ X X' row ⟨h1, h2, h3⟩ hg hr
      have h5 := HSZ.out
      exact ⟨h1, h2.own hg (fun g e => ⟨by have := (hr g e).1; omega, (hr g e).2⟩), HG.out.kept h3 hg (fun g e => .inr (hr g e).2)⟩
    case hMid =>
      rintro ⟨x, a'⟩ X X' row ⟨bb, fd, d, A, n, c, h1, h2, h3, h4⟩ hg hr
      refine ⟨bb, fd, d, A, n, c, h1, h2, (hg.block _ (Array.getElem?_eq_some_iff.1 h3).1 (fun e => ?_)).trans h3, h4⟩
      obtain ⟨-, o, ho, hcl⟩ := hr _ e.symm
      rw [h3] at ho; cases ho; cases hcl
    case h0 => exact ⟨HB5.out, HNB.out, Nat.le_refl _⟩
    case assign =>
      intro l t x W K hI hat hK
      obtain ⟨fd, d, A, n, c, he⟩ := HG.out.ans hat.2.2
      obtain ⟨S', M', As', ns', cs', Am', nm', cm', ans', r'⟩ := x
      dsimp only at he
      subst he
      have HK := Lib.hid hK
      have HII := Lib.hid hI
      have HAT := Lib.hid hat
      clear hK hI hat
      gi_wp2_with (fail)
      have hgr := World.grownBy_alloc W (.cells #[.bool fd, .int .i64 d, .slice A n c] 36) none
      refine HK.out _ _ (below_one _ _) ⟨HII.out.1.step (below_one _ _), ((below_one W _).block _ (Array.getElem?_eq_some_iff.1 HII.out.2.1).1).trans HII.out.2.1, Nat.le_trans HII.out.2.2 (below_one W _).size⟩ ⟨HAT.out.1, HAT.out.2.1.below (below_one _ _), HG.out.kept HAT.out.2.2 hgr (fun g e => (by cases e))⟩ ⟨W.heap.size, fd, d, A, n, c, rfl, rfl, W.alloc_heap_new _, HII.out.2.2⟩
    case body =>
      rintro l t x a' W hI hat ⟨bb, fd, d, A, n, c, he, rfl, hbb, hlb⟩
      obtain ⟨S', M', As', ns', cs', Am', nm', cm', ans', r'⟩ := x
      dsimp only at he
      subst he
      have c1 : W.cell? ⟨w4.heap.size + 1, 0, none⟩ = some (.int .i64 (t : Int)) := by rw [Lib.cell_of_heap hI.2.1]; rfl
      have c2 := Lib.frozen_of_heap hI.2.1 0
      obtain ⟨b0, b1, b2⟩ := ans_cells hbb
      have hbud := hI.1.bc
      have ht := hat.1
      have HII := Lib.hid hI
      have HAT := Lib.hid hat
      clear hI hat
      have hsz := HSZ.out
      have hgr := grownBy_setCell' W (w4.heap.size + 1) (Value.int IntKind.i64 ((t : Int) + 1))
      have hn1 : (W.setCell ⟨w4.heap.size + 1, 0, none⟩ (Value.int IntKind.i64 ((t : Int) + 1))).heap[w4.heap.size + 1]? = some (.cells #[.int .i64 ((t + 1 : Nat) : Int)] 3 (0, 0)) := by
        have h := heap_setCell_same W (w4.heap.size + 1) 0 _ _ (Value.int IntKind.i64 ((t : Int) + 1)) HII.out.2.1
        have e : ((t + 1 : Nat) : Int) = (t : Int) + 1 := by omega
        rw [e]
        simpa using h
      have HI1 : Hid ((RbAt w q a  9 (W.setCell ⟨w4.heap.size + 1, 0, none⟩ (Value.int IntKind.i64 ((t : Int) + 1))) ∧ (W.setCell ⟨w4.heap.size + 1, 0, none⟩ (Value.int IntKind.i64 ((t : Int) + 1))).heap[w4.heap.size + 1]? = some (.cells #[.int .i64 ((t + 1 : Nat) : Int)] 3 (0, 0)) ∧ w5.heap.size ≤ (W.setCell ⟨w4.heap.size + 1, 0, none⟩ (Value.int IntKind.i64 ((t : Int) + 1))).heap.size)) := ⟨HII.out.1.far hgr (fun g e => by injection e with e; omega), hn1, Nat.le_trans HII.out.2.2 hgr.size⟩
      have HA1 : Hid (RunAt w.heap.size (w4.heap.size + 1 + 1) w4.heap.size q a Al nl cl k Ap np cp ps (t + 1) S' M' As' ns' cs' Am' nm' cm' (W.setCell ⟨w4.heap.size + 1, 0, none⟩ (Value.int IntKind.i64 ((t : Int) + 1)))) := HAT.out.2.1.ctr HII.out.2.1 (by omega)
      have HG1 : Hid (Good w5.heap.size S' M' (Value.agg #[Value.bool fd, Value.int IntKind.i64 d, Value.slice A n c]) r' (W.setCell ⟨w4.heap.size + 1, 0, none⟩ (Value.int IntKind.i64 ((t : Int) + 1)))) := (HG.out.kept HAT.out.2.2 hgr (fun g e => .inl (by injection e with e; omega)))
      have HBB := Lib.hid ((hgr.block bb (Array.getElem?_eq_some_iff.1 hbb).1 (fun e => by injection e with e; omega)).trans hbb)
      clear hn1 hgr hsz
      cases r'
      · have ht2 : t + 1 < a.r.n := by
          rcases Nat.lt_or_ge (t + 1) a.r.n with h | h
          · exact h
          · have hm := ran_ends hc hs hd HA1.out.ran h
            have hg := HG1.out
            rw [hm] at hg
            exact absurd hg HG.out.end_
        have ht : t ≤ 6 := by omega
        gi_wp2_with (fail)
        exact ⟨(KeepsOthers.setCell _ _ _).from _, ⟨HI1.out.1, HI1.out.2.1, HII.out.2.2⟩, HA1.out, HG1.out⟩
      · gi_wp2_with (fail)
        have HKW := Lib.hid (KeepsOthers.setCell W ⟨w4.heap.size + 1, 0, none⟩ (Value.int IntKind.i64 ((t : Int) + 1)))
        generalize W.setCell ⟨w4.heap.size + 1, 0, none⟩ (Value.int IntKind.i64 ((t : Int) + 1)) = W1 at HKW HI1 HA1 HG1 HBB ⊢
        clear c1 c2 b0 b1 b2 hbud hbb HII HAT
        obtain ⟨⟨o0, o1, o2⟩, o3, o4, ⟨f0, f1, f2⟩, f3, f4⟩ := HI1.out.1.oc
        obtain ⟨b0, b1, b2⟩ := ans_cells HBB.out
        have c1 : W1.cell? ⟨w4.heap.size + 1, 0, none⟩ = some (.int .i64 ((t + 1 : Nat) : Int)) := by rw [Lib.cell_of_heap HI1.out.2.1]; rfl
        have k1 : (((W1.setCell ⟨w.heap.size + 1 + 1 + 1, 0, none⟩ (.bool fd)).setCell ⟨w.heap.size + 1 + 1 + 1, 1, none⟩ (.int .i64 d)).setCell ⟨w.heap.size + 1 + 1 + 1, 2, none⟩ (.slice A n c)).cell? ⟨w4.heap.size + 1, 0, none⟩ = some (.int .i64 ((t + 1 : Nat) : Int)) := by
          have hne : w4.heap.size + 1 ≠ w.heap.size + 1 + 1 + 1 := by omega
          have h := (Below.heap_setCell ((W1.setCell ⟨w.heap.size + 1 + 1 + 1, 0, none⟩ (.bool fd)).setCell ⟨w.heap.size + 1 + 1 + 1, 1, none⟩ (.int .i64 d)) ⟨w.heap.size + 1 + 1 + 1, 2, none⟩ (.slice A n c) (w4.heap.size + 1) hne).trans ((Below.heap_setCell (W1.setCell ⟨w.heap.size + 1 + 1 + 1, 0, none⟩ (.bool fd)) ⟨w.heap.size + 1 + 1 + 1, 1, none⟩ (.int .i64 d) (w4.heap.size + 1) hne).trans ((Below.heap_setCell W1 ⟨w.heap.size + 1 + 1 + 1, 0, none⟩ (.bool fd) (w4.heap.size + 1) hne).trans HI1.out.2.1))
          rw [Lib.cell_of_heap h]; rfl
        have HF : Hid (∀ X', X' = ((((((W1.setCell ⟨w.heap.size + 3, 0, none⟩ (.bool fd)).setCell ⟨w.heap.size + 3, 1, none⟩ (.int .i64 d)).setCell ⟨w.heap.size + 3, 2, none⟩ (.slice A n c)).setCell ⟨w.heap.size + 4, 0, none⟩ (.int .i64 ((t + 1 : Nat) : Int))).setCell ⟨w.heap.size + 5, 0, none⟩ (.int .i64 0))).drew → RunFin Good q a w w5.heap.size fd d A n c S' M' t X' ∧ KeepsFrom w5.heap.size W X') := fun X' hX => by
          have hsz := HSZ.out
          obtain ⟨Y, hY⟩ : ∃ Y, Y = (((((W1.setCell ⟨w.heap.size + 3, 0, none⟩ (.bool fd)).setCell ⟨w.heap.size + 3, 1, none⟩ (.int .i64 d)).setCell ⟨w.heap.size + 3, 2, none⟩ (.slice A n c)).setCell ⟨w.heap.size + 4, 0, none⟩ (.int .i64 ((t + 1 : Nat) : Int))).setCell ⟨w.heap.size + 5, 0, none⟩ (.int .i64 0)) := ⟨_, rfl⟩
          rw [← hY] at hX
          obtain ⟨e1, e2, e3, e4, e5⟩ := rb_ends HI1.out.1 fd d A n c _ _ Y hY
          have hk : ∀ {Y : World} (p : Addr) (x : Value), p.block < w5.heap.size → Good w5.heap.size S' M' (Value.agg #[Value.bool fd, Value.int IntKind.i64 d, Value.slice A n c]) true Y → Good w5.heap.size S' M' (Value.agg #[Value.bool fd, Value.int IntKind.i64 d, Value.slice A n c]) true (Y.setCell p x) := fun {Y} p x hp hY => HG.out.kept (row := some p.block) hY ⟨rfl, rfl, rfl, by simp [World.setCell], fun j _ hj => Below.heap_setCell _ _ _ _ (fun e => hj (by rw [e]))⟩ (fun g e => .inl (by injection e with e; omega))
          have hgY : World.grownBy Y X' none := by rw [hX]; exact ⟨rfl, rfl, rfl, Nat.le_refl _, fun j _ _ => rfl⟩
          refine ⟨RunFin.own HG.out ⟨?_, HA1.out.ran, e1, e2, e3, e5, by rw [e4]; exact HI1.out.2.2, by omega⟩ hgY (fun g e => (by cases e)), ?_⟩
          · rw [hY]
            exact hk _ _ (by simp; omega) (hk _ _ (by simp; omega) (hk _ _ (by simp; omega) (hk _ _ (by simp; omega) (hk _ _ (by simp; omega) HG1.out))))
          · rw [hX, hY]
            exact (HKW.out.trans (((((KeepsOthers.setCell _ _ _).trans (KeepsOthers.setCell _ _ _)).trans (KeepsOthers.setCell _ _ _)).trans ((KeepsOthers.setCell _ _ _).trans (KeepsOthers.setCell _ _ _))).trans (KeepsOthers.drew _))).from _
        clear HI1 HA1 HG1 HBB
        refine wpIn_region_any (by kernel_rfl) ?_
        change wpAnyIn _ _ _ _ _ _ _ _ _ (World.drew W1)
        refine wpAnyIn_ready (rs := [0, 1]) (by kernel_rfl) (by simp) ?_
        refine AllReadyIn.cons rfl (fun K hK => ?_) (AllReadyIn.cons rfl (fun K hK => ?_) AllReadyIn.nil)
        · go_simp
          refine hK _ _ ?_
          clear hK K
          refine wpAnyIn_ready (rs := [1, 2]) (by kernel_rfl) (by simp) ?_
          refine AllReadyIn.cons rfl (fun K hK => ?_) (AllReadyIn.cons rfl (fun K hK => ?_) AllReadyIn.nil)
          · go_simp
            refine hK _ _ ?_
            clear hK K
            refine wpAnyIn_ready (rs := [2]) (by kernel_rfl) (by simp) ?_
            refine AllReadyIn.cons rfl (fun K hK => ?_) AllReadyIn.nil
            go_simp
            refine hK _ _ ?_
            clear hK K
            refine wpAnyIn_ready (rs := [3]) (by kernel_rfl) (by simp) ?_
            refine AllReadyIn.cons rfl (fun K hK => ?_) AllReadyIn.nil
            go_simp
            refine hK _ _ ?_
            clear hK K
            refine wpAnyIn_ready (rs := [4]) (by kernel_rfl) (by simp) ?_
            refine AllReadyIn.cons rfl (fun K hK => ?_) AllReadyIn.nil
            go_simp
            refine hK _ _ ?_
            clear hK K
            refine wpAnyIn_done (by kernel_rfl) ?_ _
            gi_wp2_with (fail)
            obtain ⟨R1, K1⟩ := HF.out _ rfl
            exact ⟨K1, ⟨S', M', t, fd, d, A, n, c, R1⟩⟩
          · go_simp
            refine hK _ _ ?_
            clear hK K
            refine wpAnyIn_ready (rs := [1]) (by kernel_rfl) (by simp) ?_
            refine AllReadyIn.cons rfl (fun K hK => ?_) AllReadyIn.nil
            go_simp
            refine hK _ _ ?_
            clear hK K
            refine wpAnyIn_ready (rs := [3]) (by kernel_rfl) (by simp) ?_
            refine AllReadyIn.cons rfl (fun K hK => ?_) AllReadyIn.nil
            go_simp
            refine hK _ _ ?_
            clear hK K
            refine wpAnyIn_ready (rs := [4]) (by kernel_rfl) (by simp) ?_
            refine AllReadyIn.cons rfl (fun K hK => ?_) AllReadyIn.nil
            go_simp
            refine hK _ _ ?_
            clear hK K
            refine wpAnyIn_done (by kernel_rfl) ?_ _
            gi_wp2_with (fail)
            obtain ⟨R1, K1⟩ := HF.out _ rfl
            exact ⟨K1, ⟨S', M', t, fd, d, A, n, c, R1⟩⟩
        · go_simp
          refine hK _ _ ?_
          clear hK K
          refine wpAnyIn_ready (rs := [0]) (by kernel_rfl) (by simp) ?_
          refine AllReadyIn.cons rfl (fun K hK => ?_) AllReadyIn.nil
          go_simp
          refine hK _ _ ?_
          clear hK K
          refine wpAnyIn_ready (rs := [2]) (by kernel_rfl) (by simp) ?_
          refine AllReadyIn.cons rfl (fun K hK => ?_) AllReadyIn.nil
          go_simp
          refine hK _ _ ?_
          clear hK K
          refine wpAnyIn_ready (rs := [3]) (by kernel_rfl) (by simp) ?_
          refine AllReadyIn.cons rfl (fun K hK => ?_) AllReadyIn.nil
          go_simp
          refine hK _ _ ?_
          clear hK K
          refine wpAnyIn_ready (rs := [4]) (by kernel_rfl) (by simp) ?_
          refine AllReadyIn.cons rfl (fun K hK => ?_) AllReadyIn.nil
          go_simp
          refine hK _ _ ?_
          clear hK K
          refine wpAnyIn_done (by kernel_rfl) ?_ _
          gi_wp2_with (fail)
          obtain ⟨R1, K1⟩ := HF.out _ rfl
          exact ⟨K1, ⟨S', M', t, fd, d, A, n, c, R1⟩⟩
    case stop =>
      rintro D W hD ⟨S, M, t, fd, d, A, n, c, hF⟩ hdef
      refine wpIn_ret ?_
      dsimp only
      rw [HQ.out]
      show bodyPostM Fence.wide 10 Tryz.prog Tryz.f7 (fun e w' => (Er ∧ RunErr w e w') ∨ RunEnd Good q a w e w') Exit.ret _ _
      refine leaves_marks (B := w5.heap.size) (fun W => RunFin Good q a w w5.heap.size fd d A n c S M t W) ?_ ?_ [D] W ⟨by simp, fun E hE => by rw [List.mem_singleton.1 hE]; exact ⟨hD, hdef⟩⟩ hF
      · rintro W D hF hD hdef
        exact hF.own HG.out (grownBy_putObj' W D _) (fun g e => by injection e with e; subst e; exact ⟨hD, _, hdef, rfl⟩)
      · rintro W hF
        obtain ⟨o0, o1, o2⟩ := ans_cells hF.a_
        have o3 : W.cell? ⟨w.heap.size + 4, 0, none⟩ = some (.int .i64 ((t + 1 : Nat) : Int)) := by rw [Lib.cell_of_heap hF.n_]; rfl
        have o4 : W.cell? ⟨w.heap.size + 5, 0, none⟩ = some (.int .i64 0) := by rw [Lib.cell_of_heap hF.e_]; rfl
        refine ⟨.tuple #[.agg #[.bool fd, .int .i64 d, .slice A n c], .int .i64 ((t + 1 : Nat) : Int), .int .i64 0], ?_, .inr ⟨w5.heap.size, S, M, _, t + 1, t + 1, rfl, by have := hF.lim_; omega, by omega, hF.good, hF.ran, hF.bel⟩⟩
        clear hF HQ HPRE HG HR HP HRA
        simp [results, Tryz.results7, go_sem, o0, o1, o2, o3, o4]
  · go_wp2_with (fail)
    rw [HQ.out]
    refine ⟨.tuple #[.agg #[.bool false, .int .i64 0, .slice none 0 0], .int .i64 0, .int .i64 c], ?_, .inl ⟨HER.out hc, c, hc, rfl, ?_⟩⟩
    · clear HCOK HER HPRE HR HP HQ
      simp [results, Tryz.results7, go_sem, o0, o1, o2, o3, o4]
    · exact (rb_ends HB2.out false 0 none 0 0 0 c _ rfl).2.2.2.2
end Go.Proofs.YtpdnipabaimofaaGreat
