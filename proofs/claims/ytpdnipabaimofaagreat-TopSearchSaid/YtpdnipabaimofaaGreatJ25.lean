/-
  prog.Done of a distance query: the walk.
-/
import Derived.Test.YtpdnipabaimofaaGreatJ24
import Derived.Deep.RegionHeld3
import Derived.BigRegion
namespace Go.Proofs.YtpdnipabaimofaaGreat
open Go.RowKit Go.Shelf Go.Lib

set_option maxRecDepth 100000 in
set_option maxHeartbeats 8000000 in
theorem doneFar_c (q : QuA) (A : Option Addr) (n c : Nat) (As : Option Addr) (ns cs : Nat) (S : List Msg) (Am : Option Addr) (nm cm : Nat) (M : List Msg) (w : World) (hk : q.kind = 1) (hr : Reads w w.heap.size 4 As ns (mv S)) (hns : ns ≤ 100000) (hw : ∀ x ∈ S, wfI x.v) (hb : ∀ x ∈ S, 0 ≤ x.d ∧ x.d ≤ 1000) (hm : Reads w w.heap.size 4 Am nm (mv M)) (hnm : nm ≤ 1000000) :
    Calls Tryz.prog 25 #[quVal q, .slice A n c, .slice As ns cs, .slice Am nm cm] w fun e w' => DoneFar S M w e w' := by
  show Calls Tryz.prog 25 #[.agg #[.int .i64 q.kind, .int .i64 q.src, .int .i64 q.dst, .slice q.W q.nw q.cw, .int .i64 q.radius, .int .i64 q.most], .slice A n c, .slice As ns cs, .slice Am nm cm] w _
  have hmf : ∀ (fn : Fn) (first cap : Array Value) (w : World), (Instr.makeFunc fn first cap).run Tryz.prog w = .ok (.func fn first cap) w := fun _ _ _ _ => rfl
  have hx := dnAt_new w q Am nm cm
  obtain ⟨q0, q1, q2, q3, q4, q5⟩ := hx.qc
  have HX := Lib.hid hx
  have HR := Lib.hid hr
  have HW := Lib.hid hw
  have HBD := Lib.hid hb
  have HM := Lib.hid hm
  have g1 : (q.kind == 1) = true := by simpa using hk
  unfold quBox ansBox at q0 q1 q2 q3 q4 q5
  clear hx hr hw hb hm hk
  go_enter Tryz.func25, Tryz.ntmps25
  go_wp2_with (fail)
  refine (meet_c As ns cs S _ ((HR.out.below HX.out.bel).more HX.out.bel.size) hns HW.out HBD.out).mono ?_
  rintro e w1 ⟨fd, d, rfl, hmeet, hB1⟩
  have HX1 := Lib.hid (HX.out.step hB1)
  have HME := Lib.hid hmeet
  clear hB1 hmeet q0 q1 q2 q3 q4 q5 HX
  go_wp2_with (fail)
  obtain ⟨w2, hw2⟩ : ∃ w2, w2 = w1.alloc (.cells #[.bool fd, .int .i64 d, .slice none 0 0] 36) := ⟨_, rfl⟩
  have HX2 : Hid (DnAt w q Am nm cm w2) := by show DnAt _ _ _ _ _ _; rw [hw2]; exact HX1.out.step (below_one w1 _)
  have HA2 : Hid (w2.heap[w1.heap.size]? = some (ansBox fd d none 0 0)) := by show _ = _; rw [hw2]; exact World.alloc_heap_new w1 _
  rw [← hw2]
  clear hw2
  have HS2 : Hid (∀ W, Below w2.heap.size w2 W → ((W.cell? ⟨w1.heap.size, 0, none⟩ = some (.bool fd) ∧ W.cell? ⟨w1.heap.size, 1, none⟩ = some (.int .i64 d) ∧ W.cell? ⟨w1.heap.size, 2, none⟩ = some (.slice none 0 0)) ∧ ((W.cell? ⟨w.heap.size + 2, 0, none⟩ = some (.bool false) ∧ W.cell? ⟨w.heap.size + 2, 1, none⟩ = some (.int .i64 0) ∧ W.cell? ⟨w.heap.size + 2, 2, none⟩ = some (.slice none 0 0)) ∧ W.frozen? ⟨w.heap.size + 2, 0, none⟩ = false ∧ W.frozen? ⟨w.heap.size + 2, 1, none⟩ = false ∧ W.frozen? ⟨w.heap.size + 2, 2, none⟩ = false)) ∧ DnAt w q Am nm cm W) := fun W hB =>
    have h := HX2.out.step hB
    ⟨⟨ans_cells ((hB.block _ (Array.getElem?_eq_some_iff.1 HA2.out).1).trans HA2.out), h.ac⟩, h⟩
  have HDO : Hid (∀ W (m : Int), Below w2.heap.size w2 W → Calls Tryz.prog 60 #[.int .i64 m, .pointer (some ⟨w.heap.size + 1, 0, none⟩)] W fun e w' => e = .returned (.bool (M.any fun x => x.dir == m)) ∧ Below W.heap.size W w') := fun W m hB =>
    have h := HX2.out.step hB
    done1_c Am nm cm _ M m W ((HM.out.below h.bel).more h.bel.size) hnm h.mc
  obtain ⟨⟨⟨b0, b1, b2⟩, ⟨a0, a1, a2⟩, y0, y1, y2⟩, -⟩ := HS2.out w2 (Below.refl _ _)
  have hfin : Hid (∀ (W : World) (r : Bool), Below w2.heap.size w2 W → (r = true ↔ fd = true ∨ (∀ x ∈ M, x.dir ≠ 0) ∨ (∀ x ∈ M, x.dir ≠ 1)) → DoneFar S M w (.returned (.tuple #[.agg #[.bool fd, .int .i64 d, .slice none 0 0], .bool r])) (((W.setCell ⟨w.heap.size + 2, 0, none⟩ (.bool fd)).setCell ⟨w.heap.size + 2, 1, none⟩ (.int .i64 d)).setCell ⟨w.heap.size + 2, 2, none⟩ (.slice none 0 0))) := fun W r hB hr =>
    ⟨fd, d, r, rfl, HME.out, hr, ((((HX2.out.step hB).bel.setCell (p := ⟨w.heap.size + 2, 0, none⟩) (Nat.le_add_right _ 2) _).setCell (p := ⟨w.heap.size + 2, 1, none⟩) (Nat.le_add_right _ 2) _).setCell (p := ⟨w.heap.size + 2, 2, none⟩) (Nat.le_add_right _ 2) _)⟩
  cases fd with
  | true =>
    go_region
    all_goals
      go_wp2_with (fail)
      refine pair_end (fd := true) (d := d) (A := none) (n := 0) (c := 0) (r := true) (o := w.heap.size + 2) rfl rfl rfl rfl (by go_cell) (by go_cell) (by go_cell) ?_
      exact hfin.out _ true (Below.refl _ _).drew (by simp)
  | false =>
    have HKF : Hid (∀ (W : World) (u v t : Value), (W.cell? ⟨w1.heap.size, 0, none⟩ = some (.bool false) ∧ W.cell? ⟨w1.heap.size, 1, none⟩ = some (.int .i64 d) ∧ W.cell? ⟨w1.heap.size, 2, none⟩ = some (.slice none 0 0)) → ((((W.setCell ⟨w.heap.size + 2, 0, none⟩ u).setCell ⟨w.heap.size + 2, 1, none⟩ v).setCell ⟨w.heap.size + 2, 2, none⟩ t).cell? ⟨w1.heap.size, 0, none⟩ = some (.bool false) ∧ (((W.setCell ⟨w.heap.size + 2, 0, none⟩ u).setCell ⟨w.heap.size + 2, 1, none⟩ v).setCell ⟨w.heap.size + 2, 2, none⟩ t).cell? ⟨w1.heap.size, 1, none⟩ = some (.int .i64 d) ∧ (((W.setCell ⟨w.heap.size + 2, 0, none⟩ u).setCell ⟨w.heap.size + 2, 1, none⟩ v).setCell ⟨w.heap.size + 2, 2, none⟩ t).cell? ⟨w1.heap.size, 2, none⟩ = some (.slice none 0 0))) := fun W u v t ⟨h0, h1, h2⟩ => by
      have hne : w.heap.size + 2 ≠ w1.heap.size := Nat.ne_of_lt HX1.out.lt
      refine ⟨?_, ?_, ?_⟩ <;> (rw [World.cell?_setCell_far _ _ _ _ hne, World.cell?_setCell_far _ _ _ _ hne, World.cell?_setCell_far _ _ _ _ hne]; assumption)
    cases ht0 : (M.any fun x => x.dir == 0) with
    | false =>
      have HD0 : Hid (∀ W, Below w2.heap.size w2 W → Calls Tryz.prog 60 #[.int .i64 0, .pointer (some ⟨w.heap.size + 1, 0, none⟩)] W fun e w' => e = .returned (.bool false) ∧ Below W.heap.size W w') := fun W hB => by have h := HDO.out W 0 hB; rw [ht0] at h; exact h
      have HT0 := Lib.hid ht0
      clear HDO ht0 HKF
      refine wp_region_any (by kernel_rfl) ?_
      change wpAny _ _ _ _ _ _ _ (World.drew _)
      refine wpAny_take (i := 1) (v := .pointer (some ⟨w1.heap.size, 0, none⟩)) rfl (by kernel_rfl) (by kernel_rfl) (by kernel_rfl) (fun _ _ _ h => h) (Or.inl ⟨by rfl, by intro w'; go_simp; try with_reducible rfl⟩) ?_
      refine wpAny_ready (rs := [0, 2]) (by kernel_rfl) (by simp) ?_
      refine AllReady.cons rfl (fun K hK => ?_) (AllReady.cons rfl (fun K hK => ?_) AllReady.nil)
      · go_simp
        refine hK _ _ ?_
        clear hK K
        refine wpAny_ready (rs := [2]) (by kernel_rfl) (by simp) ?_
        refine AllReady.cons rfl (fun K hK => ?_) AllReady.nil
        go_simp
        refine hK _ _ ?_
        clear hK K
        refine wpAny_take (i := 3) (v := .bool false) rfl (by kernel_rfl) (by kernel_rfl) (by kernel_rfl) (fun _ _ _ h => h) (Or.inl ⟨by rfl, by intro w'; go_simp; try with_reducible rfl⟩) ?_
        refine wpAny_take (i := 4) (v := .func (.func 60) #[] #[.pointer (some ⟨w.heap.size + 1, 0, none⟩)]) rfl (by kernel_rfl) (by kernel_rfl) (by kernel_rfl) (fun _ _ _ h => h) (Or.inl ⟨by rfl, by intro w'; go_simp; try with_reducible rfl⟩) ?_
        refine wpAny_ready (rs := [5]) (by kernel_rfl) (by simp) ?_
        refine AllReady.cons rfl (fun K hK => ?_) AllReady.nil
        go_simp
        go_at_call 60
        refine (HD0.out _ ((Below.refl _ _).drew)).mono ?_
        rintro e w3 ⟨rfl, hB3'⟩
        have HB3 := Lib.hid (((Below.refl w2.heap.size w2).drew).trans hB3')
        obtain ⟨⟨⟨b0, b1, b2⟩, ⟨e0, e1, e2⟩, z0, z1, z2⟩, -⟩ := HS2.out _ HB3.out
        clear hB3'
        refine hK _ _ ?_
        clear hK K
        refine wpAny_take (i := 6) (v := .bool true) rfl (by kernel_rfl) (by kernel_rfl) (by kernel_rfl) (fun _ _ _ h => h) (Or.inl ⟨by rfl, by intro w'; go_simp; try with_reducible rfl⟩) ?_
        refine wpAny_take (i := 7) (v := .bool true) rfl (by kernel_rfl) (by kernel_rfl) (by kernel_rfl) (fun _ _ _ h => h) (Or.inl ⟨by rfl, by intro w'; go_simp; try with_reducible rfl⟩) ?_
        refine wpAny_take (i := 8) (v := .bool true) rfl (by kernel_rfl) (by kernel_rfl) (by kernel_rfl) (fun _ _ _ h => h) (Or.inl ⟨by rfl, by intro w'; go_simp; try with_reducible rfl⟩) ?_
        refine wpAny_take (i := 9) (v := undef) rfl (by kernel_rfl) (by kernel_rfl) (by kernel_rfl) (fun _ _ _ h => h) (Or.inr ⟨by kernel_rfl, rfl⟩) ?_
        refine wpAny_take (i := 10) (v := undef) rfl (by kernel_rfl) (by kernel_rfl) (by kernel_rfl) (fun _ _ _ h => h) (Or.inr ⟨by kernel_rfl, rfl⟩) ?_
        refine wpAny_take (i := 11) (v := undef) rfl (by kernel_rfl) (by kernel_rfl) (by kernel_rfl) (fun _ _ _ h => h) (Or.inr ⟨by kernel_rfl, rfl⟩) ?_
        refine wpAny_take (i := 12) (v := .bool true) rfl (by kernel_rfl) (by kernel_rfl) (by kernel_rfl) (fun _ _ _ h => h) (Or.inl ⟨by rfl, by intro w'; go_simp; try with_reducible rfl⟩) ?_
        refine wpAny_ready (rs := [13]) (by kernel_rfl) (by simp) ?_
        refine AllReady.cons rfl (fun K hK => ?_) AllReady.nil
        go_simp
        refine hK _ _ ?_
        clear hK K
        refine wpAny_take (i := 14) (v := .bool true) rfl (by kernel_rfl) (by kernel_rfl) (by kernel_rfl) (fun _ _ _ h => h) (Or.inl ⟨by rfl, by intro w'; go_simp; try with_reducible rfl⟩) ?_
        refine wpAny_done (by kernel_rfl) ?_ _
        go_wp2_with (fail)
        refine pair_end (fd := false) (d := d) (A := none) (n := 0) (c := 0) (r := true) (o := w.heap.size + 2) rfl rfl rfl rfl (by go_cell) (by go_cell) (by go_cell) ?_
        exact hfin.out _ true HB3.out (by simp; exact .inl ((any_dir M 0).1 HT0.out))
      · go_simp
        refine hK _ _ ?_
        clear hK K
        refine wpAny_take (i := 3) (v := .bool false) rfl (by kernel_rfl) (by kernel_rfl) (by kernel_rfl) (fun _ _ _ h => h) (Or.inl ⟨by rfl, by intro w'; go_simp; try with_reducible rfl⟩) ?_
        refine wpAny_take (i := 4) (v := .func (.func 60) #[] #[.pointer (some ⟨w.heap.size + 1, 0, none⟩)]) rfl (by kernel_rfl) (by kernel_rfl) (by kernel_rfl) (fun _ _ _ h => h) (Or.inl ⟨by rfl, by intro w'; go_simp; try with_reducible rfl⟩) ?_
        refine wpAny_ready (rs := [0, 5]) (by kernel_rfl) (by simp) ?_
        refine AllReady.cons rfl (fun K hK => ?_) (AllReady.cons rfl (fun K hK => ?_) AllReady.nil)
        · go_simp
          refine hK _ _ ?_
          clear hK K
          refine wpAny_ready (rs := [5]) (by kernel_rfl) (by simp) ?_
          refine AllReady.cons rfl (fun K hK => ?_) AllReady.nil
          go_simp
          go_at_call 60
          refine (HD0.out _ ((Below.refl _ _).drew)).mono ?_
          rintro e w3 ⟨rfl, hB3'⟩
          have HB3 := Lib.hid (((Below.refl w2.heap.size w2).drew).trans hB3')
          obtain ⟨⟨⟨b0, b1, b2⟩, ⟨e0, e1, e2⟩, z0, z1, z2⟩, -⟩ := HS2.out _ HB3.out
          clear hB3'
          refine hK _ _ ?_
          clear hK K
          refine wpAny_take (i := 6) (v := .bool true) rfl (by kernel_rfl) (by kernel_rfl) (by kernel_rfl) (fun _ _ _ h => h) (Or.inl ⟨by rfl, by intro w'; go_simp; try with_reducible rfl⟩) ?_
          refine wpAny_take (i := 7) (v := .bool true) rfl (by kernel_rfl) (by kernel_rfl) (by kernel_rfl) (fun _ _ _ h => h) (Or.inl ⟨by rfl, by intro w'; go_simp; try with_reducible rfl⟩) ?_
          refine wpAny_take (i := 8) (v := .bool true) rfl (by kernel_rfl) (by kernel_rfl) (by kernel_rfl) (fun _ _ _ h => h) (Or.inl ⟨by rfl, by intro w'; go_simp; try with_reducible rfl⟩) ?_
          refine wpAny_take (i := 9) (v := undef) rfl (by kernel_rfl) (by kernel_rfl) (by kernel_rfl) (fun _ _ _ h => h) (Or.inr ⟨by kernel_rfl, rfl⟩) ?_
          refine wpAny_take (i := 10) (v := undef) rfl (by kernel_rfl) (by kernel_rfl) (by kernel_rfl) (fun _ _ _ h => h) (Or.inr ⟨by kernel_rfl, rfl⟩) ?_
          refine wpAny_take (i := 11) (v := undef) rfl (by kernel_rfl) (by kernel_rfl) (by kernel_rfl) (fun _ _ _ h => h) (Or.inr ⟨by kernel_rfl, rfl⟩) ?_
          refine wpAny_take (i := 12) (v := .bool true) rfl (by kernel_rfl) (by kernel_rfl) (by kernel_rfl) (fun _ _ _ h => h) (Or.inl ⟨by rfl, by intro w'; go_simp; try with_reducible rfl⟩) ?_
          refine wpAny_ready (rs := [13]) (by kernel_rfl) (by simp) ?_
          refine AllReady.cons rfl (fun K hK => ?_) AllReady.nil
          go_simp
          refine hK _ _ ?_
          clear hK K
          refine wpAny_take (i := 14) (v := .bool true) rfl (by kernel_rfl) (by kernel_rfl) (by kernel_rfl) (fun _ _ _ h => h) (Or.inl ⟨by rfl, by intro w'; go_simp; try with_reducible rfl⟩) ?_
          refine wpAny_done (by kernel_rfl) ?_ _
          go_wp2_with (fail)
          refine pair_end (fd := false) (d := d) (A := none) (n := 0) (c := 0) (r := true) (o := w.heap.size + 2) rfl rfl rfl rfl (by go_cell) (by go_cell) (by go_cell) ?_
          exact hfin.out _ true HB3.out (by simp; exact .inl ((any_dir M 0).1 HT0.out))
        · go_simp
          go_at_call 60
          refine (HD0.out _ ((Below.refl _ _).drew)).mono ?_
          rintro e w3 ⟨rfl, hB3'⟩
          have HB3 := Lib.hid (((Below.refl w2.heap.size w2).drew).trans hB3')
          obtain ⟨⟨⟨b0, b1, b2⟩, ⟨e0, e1, e2⟩, z0, z1, z2⟩, -⟩ := HS2.out _ HB3.out
          clear hB3'
          refine hK _ _ ?_
          clear hK K
          refine wpAny_take (i := 6) (v := .bool true) rfl (by kernel_rfl) (by kernel_rfl) (by kernel_rfl) (fun _ _ _ h => h) (Or.inl ⟨by rfl, by intro w'; go_simp; try with_reducible rfl⟩) ?_
          refine wpAny_take (i := 7) (v := .bool true) rfl (by kernel_rfl) (by kernel_rfl) (by kernel_rfl) (fun _ _ _ h => h) (Or.inl ⟨by rfl, by intro w'; go_simp; try with_reducible rfl⟩) ?_
          refine wpAny_take (i := 8) (v := .bool true) rfl (by kernel_rfl) (by kernel_rfl) (by kernel_rfl) (fun _ _ _ h => h) (Or.inl ⟨by rfl, by intro w'; go_simp; try with_reducible rfl⟩) ?_
          refine wpAny_take (i := 9) (v := undef) rfl (by kernel_rfl) (by kernel_rfl) (by kernel_rfl) (fun _ _ _ h => h) (Or.inr ⟨by kernel_rfl, rfl⟩) ?_
          refine wpAny_take (i := 10) (v := undef) rfl (by kernel_rfl) (by kernel_rfl) (by kernel_rfl) (fun _ _ _ h => h) (Or.inr ⟨by kernel_rfl, rfl⟩) ?_
          refine wpAny_take (i := 11) (v := undef) rfl (by kernel_rfl) (by kernel_rfl) (by kernel_rfl) (fun _ _ _ h => h) (Or.inr ⟨by kernel_rfl, rfl⟩) ?_
          refine wpAny_take (i := 12) (v := .bool true) rfl (by kernel_rfl) (by kernel_rfl) (by kernel_rfl) (fun _ _ _ h => h) (Or.inl ⟨by rfl, by intro w'; go_simp; try with_reducible rfl⟩) ?_
          refine wpAny_ready (rs := [0]) (by kernel_rfl) (by simp) ?_
          refine AllReady.cons rfl (fun K hK => ?_) AllReady.nil
          go_simp
          refine hK _ _ ?_
          clear hK K
          refine wpAny_ready (rs := [13]) (by kernel_rfl) (by simp) ?_
          refine AllReady.cons rfl (fun K hK => ?_) AllReady.nil
          go_simp
          refine hK _ _ ?_
          clear hK K
          refine wpAny_take (i := 14) (v := .bool true) rfl (by kernel_rfl) (by kernel_rfl) (by kernel_rfl) (fun _ _ _ h => h) (Or.inl ⟨by rfl, by intro w'; go_simp; try with_reducible rfl⟩) ?_
          refine wpAny_done (by kernel_rfl) ?_ _
          go_wp2_with (fail)
          refine pair_end (fd := false) (d := d) (A := none) (n := 0) (c := 0) (r := true) (o := w.heap.size + 2) rfl rfl rfl rfl (by go_cell) (by go_cell) (by go_cell) ?_
          exact hfin.out _ true HB3.out (by simp; exact .inl ((any_dir M 0).1 HT0.out))
    | true =>
      have HD0 : Hid (∀ W, Below w2.heap.size w2 W → Calls Tryz.prog 60 #[.int .i64 0, .pointer (some ⟨w.heap.size + 1, 0, none⟩)] W fun e w' => e = .returned (.bool true) ∧ Below W.heap.size W w') := fun W hB => by have h := HDO.out W 0 hB; rw [ht0] at h; exact h
      have HT0 := Lib.hid ht0
      cases ht1 : (M.any fun x => x.dir == 1) with
      | false =>
        have HD1 : Hid (∀ W, Below w2.heap.size w2 W → Calls Tryz.prog 60 #[.int .i64 1, .pointer (some ⟨w.heap.size + 1, 0, none⟩)] W fun e w' => e = .returned (.bool false) ∧ Below W.heap.size W w') := fun W hB => by have h := HDO.out W 1 hB; rw [ht1] at h; exact h
        have HT1 := Lib.hid ht1
        clear HDO ht0 ht1
        go_region_held3 (fun W : World => W.cell? ⟨w1.heap.size, 0, none⟩ = some (.bool false) ∧ W.cell? ⟨w1.heap.size, 1, none⟩ = some (.int .i64 d) ∧ W.cell? ⟨w1.heap.size, 2, none⟩ = some (.slice none 0 0))
          (first | exact ⟨b0, b1, b2⟩ | exact HKF.out _ _ _ _ (HS2.out _ HB4.out).1.1 | exact (HS2.out _ HB4.out).1.1 | exact (HS2.out _ HB3.out).1.1)
          ((first
            | (go_at_call 60; refine (HD1.out _ HB3.out).mono ?_; rintro e w4 ⟨rfl, hB4'⟩; have HB4 := Lib.hid (HB3.out.trans (hB4'.mono HB3.out.size)); obtain ⟨⟨-, ⟨e0, e1, e2⟩, z0, z1, z2⟩, -⟩ := HS2.out _ HB4.out; clear hB4')
            | (go_at_call 60; refine (HD0.out _ ((Below.refl _ _).drew)).mono ?_; rintro e w3 ⟨rfl, hB3'⟩; have HB3 := Lib.hid (((Below.refl w2.heap.size w2).drew).trans hB3'); clear hB3')))
        all_goals
          go_wp2_with (fail)
          refine pair_end (fd := false) (d := d) (A := none) (n := 0) (c := 0) (r := true) (o := w.heap.size + 2) rfl rfl rfl rfl (by go_cell) (by go_cell) (by go_cell) ?_
          exact hfin.out _ true HB4.out (by simp; exact .inr ((any_dir M 1).1 HT1.out))
      | true =>
        have HD1 : Hid (∀ W, Below w2.heap.size w2 W → Calls Tryz.prog 60 #[.int .i64 1, .pointer (some ⟨w.heap.size + 1, 0, none⟩)] W fun e w' => e = .returned (.bool true) ∧ Below W.heap.size W w') := fun W hB => by have h := HDO.out W 1 hB; rw [ht1] at h; exact h
        have HT1 := Lib.hid ht1
        clear HDO ht0 ht1
        have HRF : Hid ((false = true) ↔ false = true ∨ (∀ x ∈ M, x.dir ≠ 0) ∨ (∀ x ∈ M, x.dir ≠ 1)) := by
          refine ⟨fun h => (by cases h), fun h => ?_⟩
          rcases h with h | h | h
          · cases h
          · have h0 := HT0.out
            rw [(any_dir M 0).2 h] at h0
            cases h0
          · have h1 := HT1.out
            rw [(any_dir M 1).2 h] at h1
            cases h1
        go_region_held3 (fun W : World => W.cell? ⟨w1.heap.size, 0, none⟩ = some (.bool false) ∧ W.cell? ⟨w1.heap.size, 1, none⟩ = some (.int .i64 d) ∧ W.cell? ⟨w1.heap.size, 2, none⟩ = some (.slice none 0 0))
          (first | exact ⟨b0, b1, b2⟩ | exact HKF.out _ _ _ _ (HS2.out _ HB4.out).1.1 | exact (HS2.out _ HB4.out).1.1 | exact (HS2.out _ HB3.out).1.1)
          ((first
            | (go_at_call 60; refine (HD1.out _ HB3.out).mono ?_; rintro e w4 ⟨rfl, hB4'⟩; have HB4 := Lib.hid (HB3.out.trans (hB4'.mono HB3.out.size)); obtain ⟨⟨-, ⟨e0, e1, e2⟩, z0, z1, z2⟩, -⟩ := HS2.out _ HB4.out; clear hB4')
            | (go_at_call 60; refine (HD0.out _ ((Below.refl _ _).drew)).mono ?_; rintro e w3 ⟨rfl, hB3'⟩; have HB3 := Lib.hid (((Below.refl w2.heap.size w2).drew).trans hB3'); clear hB3')))
        all_goals
          go_wp2_with (fail)
          refine pair_end (fd := false) (d := d) (A := none) (n := 0) (c := 0) (r := false) (o := w.heap.size + 2) rfl rfl rfl rfl (by go_cell) (by go_cell) (by go_cell) ?_
          exact hfin.out _ false HB4.out (HRF.out)
end Go.Proofs.YtpdnipabaimofaaGreat
