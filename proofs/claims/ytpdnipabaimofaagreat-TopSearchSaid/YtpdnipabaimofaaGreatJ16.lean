/-
  Clone and SortFunc at hits, the queue's All, First: the walks.
-/
import Derived.Test.YtpdnipabaimofaaGreatJ14
import Derived.Test.YtpdnipabaimofaaGreatJ15
import Derived.Test.YtpdnipabaimofaaGreatJ04
namespace Go.Proofs.YtpdnipabaimofaaGreat
open Go.RowKit Go.Shelf Go.Lib Go.Sort

theorem own_emptyH (w : World) (e : TypeId) (sz : Nat) : (w.alloc (.cells #[] e)).ownsRow w.heap.size e sz (.slice (some ⟨w.heap.size, 0, none⟩) 0 0) 0 [] := by
  refine ⟨by simp, .inr ⟨w.heap.size, 0, #[], rfl, Nat.le_refl _, Array.getElem?_push_size, Nat.le_refl _, by simp [maxLen], by simp, by simp⟩⟩
set_option maxRecDepth 100000 in
theorem cloneH_c (A : Option Addr) (n c : Nat) (l : List Hit) (w : World) (h : Reads w w.heap.size 2 A n (hitsV l)) (hn : n ≤ 1000000) :
    Calls Tryz.prog 146 #[.slice A n c] w fun e w' => ∃ A' c', e = .returned (.slice A' n c') ∧ w'.ownsRow w.heap.size 215 2 (.slice A' n c') n (hitsV l) ∧ Below w.heap.size w w' := by
  rcases A with _ | a
  · have h0 : n = 0 := by
      rcases Nat.eq_zero_or_pos n with h0 | h0
      · exact h0
      · obtain ⟨_, _, e, _⟩ := h.2 h0
        cases e
    subst h0
    have hl : hitsV l = [] := List.eq_nil_of_length_eq_zero (by have := h.1; omega)
    rw [hl]
    clear h hl
    have hrun := fun w => Lib.run_eql_slice_nil (P := Tryz.prog) w 190 215 none 0 c 0 0 Tryz.underlying190
    go_enter Tryz.func146, Tryz.ntmps146
    go_wp2_with (fail)
    go_ret
    exact ⟨none, 0, rfl, own_nil, Below.refl _ _⟩
  · have HR := Lib.hid h
    clear h
    have HE := Lib.hid (own_emptyH w 215 2)
    have HB := Lib.hid (below_one' w (.cells #[] 215))
    have hrun := fun w => Lib.run_eql_slice_nil (P := Tryz.prog) w 190 215 (some a) n c 0 0 Tryz.underlying190
    go_enter Tryz.func146, Tryz.ntmps146
    go_wp2_with (at_builtin; refine wpList_cat elHit rfl _ _ rfl HE.out rfl ((HR.out.below HB.out).more HB.out.size) rfl (hitsV_one _) (by unfold maxLen; omega) (by omega) (by simp) ?_; intro A1 c1 w1 hown p1)
    go_ret
    refine ⟨A1, c1, rfl, by simpa using hown, HB.out.trans (p1.below HE.out (Below.refl _ _) (Nat.le_refl _) HB.out.size)⟩


section
variable {b c : Nat} {k : Int} {A : Option Addr} {q : List Hit} {W : World}
set_option maxRecDepth 100000 in
set_option maxHeartbeats 4000000 in
theorem qAll_c (h : PileAt b k A c q W) (hq : q.length ≤ 1000000) :
    Calls Tryz.prog 124 #[.pointer (some ⟨b, 0, none⟩)] W fun e w' => ∃ (A' : Option Addr) (n' c' : Nat) (o : List Hit), e = .returned (.slice A' n' c') ∧ Hid (o.Perm q ∧ o.Pairwise hle) ∧ w'.ownsRow W.heap.size 43 2 (.slice A' n' c') n' (hitsV o) ∧ Below W.heap.size W w' := by
  have c0 := h.cells.1
  have HR := Lib.hid (own_reads h.own)
  clear h
  go_enter Tryz.func124, Tryz.ntmps124
  go_wp2_with (fail)
  refine (cloneH_c A q.length c q W HR.out hq).mono ?_
  rintro e w1 ⟨A1, c1, rfl, ho1, hB1⟩
  have HO1 := Lib.hid ho1
  have HB1 := Lib.hid hB1
  clear ho1 hB1 c0
  go_wp2_with (fail)
  refine (sortH_c HO1.out (by omega)).mono ?_
  rintro e w2 ⟨rfl, d, hp, hs, ho2, hg2⟩
  have HO2 := Lib.hid ho2
  have HPD : Hid (d.Perm q ∧ d.Pairwise hle) := ⟨hp, hs.imp fun {a b} hab => Classical.byContradiction fun c => hab c⟩
  have HB2 : Hid (Below W.heap.size W w2) := HB1.out.grown hg2 HB1.out.size (fun j hj => by
    cases hA : A1 with
    | none => rw [hA] at hj; cases hj
    | some a => rw [hA] at hj; have := (own_lt HO1.out a hA).1; injection hj with hj; simp only at hj; omega)
  have hl : d.length = q.length := HPD.out.1.length_eq
  clear hp hs ho2 hg2 HO1 HB1
  generalize hn : q.length = n at *
  have HL := Lib.hid hl
  clear hl hn
  go_wp2_with (fail)
  go_loopw [19, 4] (fun i out wr => ∃ (j : Nat) (A : Option Addr) (c : Nat), j ≤ n ∧ i = .int .i64 j ∧ out = .slice A j c ∧ wr.ownsRow w2.heap.size 43 2 (.slice A j c) j (hitsV (d.take j)) ∧ Below w2.heap.size w2 wr) (fun i _ _ => n - (intOf i).toNat)
  case atStart => exact ⟨0, none, 0, Nat.zero_le _, rfl, rfl, by simpa [hitsV] using own_nil, Below.refl _ _⟩
  case round =>
    obtain ⟨j, A, c, hj, rfl, rfl, ho, hB⟩ := hrel
    by_cases hlt : j < n
    · obtain ⟨b, o, z, rfl, hz, d0, d1⟩ := ((own_reads HO2.out).below hB).hit_at (k := j) hlt
      have HZ := Lib.hid hz.out
      have HB := Lib.hid hB
      have HO := Lib.hid ho
      clear hz ho hB
      have f1 : (0 : Int) ≤ (j : Int) := by omega
      have f2 : (j : Int) < (n : Int) := by omega
      have HB0 := Lib.hid (HB.out.trans ((below_one' wr (hitBox z)).mono HB.out.size))
      go_wp2_with (at_builtin; refine wpList_push elAHit rfl _ _ rfl (HO.out.alloc _) rfl _ rfl (by simp only [World.size_alloc]; rfl) (hitC_one z) (by unfold maxLen; omega) (by omega) HB0.out.size ?_; intro A4 c4 w4 hoo4 p4)
      have hB4 := Lib.hid (p4.below (HO.out.alloc _) HB0.out (Nat.le_refl _) HB0.out.size)
      have hO4 := Lib.hid hoo4
      clear p4 hoo4
      go_roundw
      case rel =>
        refine ⟨j + 1, A4, c4, by omega, by go_num, rfl, ?_, hB4.out⟩
        rw [List.take_add_one, HZ.out, Option.toList_some, hitsV_append]
        simpa [hitsV, hitC] using hO4.out
      case measure => simp [intOf]; omega
    · obtain rfl : j = n := by omega
      have HB := Lib.hid (HB2.out.trans (hB.mono HB2.out.size))
      have HO : Hid (wr.ownsRow W.heap.size 43 2 (.slice A j c) j (hitsV d)) := by
        rw [List.take_of_length_le (by rw [HL.out]; exact Nat.le_refl _)] at ho
        exact own_more ho HB2.out.size
      clear ho hB
      go_wp2_with (fail)
      go_ret
      exact ⟨A, _, c, d, rfl, HPD.out, HO.out, HB.out⟩
/-- What 'First' hands out, and no more than it may. -/
def FirstK (k : Nat) (h o : List Hit) : Prop := FirstIs h o ∧ o.length ≤ k
set_option maxRecDepth 100000 in
set_option maxHeartbeats 4000000 in
/-- What 'First' hands out, by a memory that it grows. -/
theorem first_c (Ah : Option Addr) (nh ch : Nat) (l : List Hit) (kk : Nat) (W : World) (hr : Reads W W.heap.size 2 Ah nh (hitsV l)) (hn : nh ≤ 1000000) (hk : 1 ≤ kk ∧ kk ≤ 1000) :
    Calls Tryz.prog 96 #[.slice Ah nh ch, .int .i64 (kk : Int)] W fun e w' => ∃ (A' : Option Addr) (n' c' : Nat) (o : List Hit), e = .returned (.slice A' n' c') ∧ Hid (FirstK kk l o) ∧ w'.ownsRow W.heap.size 43 2 (.slice A' n' c') n' (hitsV o) ∧ Below W.heap.size W w' := by
  have HR := Lib.hid hr
  have hll : Hid (l.length = nh) := hr.hit_len
  have hb0 := below_one' W (qBox none 0 0 kk)
  have HP0 : Hid (PileAt W.heap.size (kk : Int) none 0 [] (W.alloc (qBox none 0 0 kk))) := ⟨World.alloc_heap_new W _, own_nil⟩
  have HB0 := Lib.hid hb0
  have g1 : ¬ (kk : Int) < 1 := by omega
  clear hr hb0
  go_enter Tryz.func96, Tryz.ntmps96
  go_wp2_with (fail)
  go_loopw [15] (fun i wr => ∃ (j : Nat) (A : Option Addr) (c : Nat) (q : List Hit), j ≤ nh ∧ i = .int .i64 j ∧ Hid (QInv kk (l.take j) q) ∧ PileAt W.heap.size (kk : Int) A c q wr ∧ Below W.heap.size W wr) (fun i _ => nh - (intOf i).toNat)
  case atStart => exact ⟨0, none, 0, [], Nat.zero_le _, rfl, by show QInv _ _ _; simpa using qinv_nil kk, HP0.out, HB0.out⟩
  case round =>
    clear HP0 HB0
    obtain ⟨j, A, c, q, hj, rfl, hi, hp, hB⟩ := hrel
    by_cases hlt : j < nh
    · obtain ⟨b, o, z, rfl, hz, d0, d1⟩ := (HR.out.below hB).hit_at (k := j) hlt
      have HZ := Lib.hid hz.out
      have HB := Lib.hid hB
      have hbz := below_one' wr (ahitBox z)
      have HP := Lib.hid (hp.below hbz)
      have HBz := Lib.hid (HB.out.trans (hbz.mono HB.out.size))
      clear hz hp hB hbz
      have f1 : (0 : Int) ≤ (j : Int) := by omega
      have f2 : (j : Int) < (nh : Int) := by omega
      go_wp2_with (fail)
      refine (qPut_c kk z (l.take j) HP.out hk hi.out).mono ?_
      rintro e w2 ⟨⟨v, rfl⟩, A2, c2, q2, hq2, hp2, ht2⟩
      have HP2 := Lib.hid hp2
      have HB2 : Hid (Below W.heap.size W w2) := HBz.out.trans (HP.out.bel ht2)
      clear hp2 ht2 d0 d1
      go_wp2_with (fail)
      go_roundw
      case rel =>
        refine ⟨j + 1, A2, c2, q2, by omega, by go_num, ?_, HP2.out, HB2.out⟩
        rw [List.take_add_one, HZ.out, Option.toList_some]
        exact hq2.out
      case measure => simp [intOf]; omega
    · obtain rfl : j = nh := by omega
      have HI : Hid (QInv kk l q) := by
        have h := hi.out
        rw [List.take_of_length_le (by rw [hll.out]; exact Nat.le_refl _)] at h
        exact h
      have HP := Lib.hid hp
      have HB := Lib.hid hB
      clear hi hp hB
      go_wp2_with (fail)
      refine (qAll_c HP.out (by have := HI.out.most; omega)).mono ?_
      rintro e w2 ⟨A2, n2, c2, o, rfl, ho, hoo, hB2⟩
      have HO := Lib.hid (own_more (base := W.heap.size) hoo HB.out.size)
      have HB2 := Lib.hid (HB.out.trans (hB2.mono HB.out.size))
      have HF : Hid (FirstK kk l o) := ⟨first_is HI.out ho.out.2 (fun y => ho.out.1.mem_iff), by rw [ho.out.1.length_eq]; exact HI.out.most⟩
      clear hoo hB2
      go_wp2_with (fail)
      go_ret
      exact ⟨A2, n2, c2, o, rfl, HF.out, HO.out, HB2.out⟩
end
end Go.Proofs.YtpdnipabaimofaaGreat
