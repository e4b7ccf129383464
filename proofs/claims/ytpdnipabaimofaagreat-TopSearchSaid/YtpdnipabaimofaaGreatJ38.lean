/-
  slices.Clone and slices.Compact: the walks.
  slices.Compact: the walks.
  The orders of edges and of words, for a sort.
  slices.SortFunc at edges: the kit's contract, laid at this program (written by the kit's lay-plain).
  slices.SortFunc at texts: the kit's contract, laid at this program (written by the kit's lay-plain).
  slices.SortFunc on a row of edges, of texts, of the call's own.
  Elements once each: the walks.
  A graph made normal: what has been made so far.
  A graph made normal: the walk.
-/
import Derived.Test.YtpdnipabaimofaaGreatJ06
import Derived.Test.YtpdnipabaimofaaGreatJ05
import Derived.Test.YtpdnipabaimofaaGreatProg
import Derived.Lib.SliceRun
import Derived.Deep.QuietTactic
import Derived.Shelf.SlSortCmp.WholeK
import Derived.Shelf.SlSortCmp.Whole1
import Derived.Shelf.SlSortCmp.NoneTotal
namespace Go.Proofs.YtpdnipabaimofaaGreat
open Go.RowKit

theorem own_emptyG (w : World) (e : TypeId) (sz : Nat) : (w.alloc (.cells #[] e)).ownsRow w.heap.size e sz (.slice (some ⟨w.heap.size, 0, none⟩) 0 0) 0 [] := by
  refine ⟨by simp, .inr ⟨w.heap.size, 0, #[], rfl, Nat.le_refl _, Array.getElem?_push_size, Nat.le_refl _, by simp [maxLen], by simp, by simp⟩⟩

set_option maxRecDepth 100000 in
theorem cloneE_c (A : Option Addr) (n c : Nat) (l : List Edg) (w : World) (h : Reads w w.heap.size 2 A n (ev l)) (hn : n ≤ 1000000) :
    Calls Tryz.prog 38 #[.slice A n c] w fun e w' => ∃ A' c', e = .returned (.slice A' n c') ∧ w'.ownsRow w.heap.size 48 2 (.slice A' n c') n (ev l) ∧ Below w.heap.size w w' := by
  rcases A with _ | a
  · have h0 : n = 0 := by
      rcases Nat.eq_zero_or_pos n with h0 | h0
      · exact h0
      · obtain ⟨_, _, e, _⟩ := h.2 h0
        cases e
    subst h0
    have hl : ev l = [] := List.eq_nil_of_length_eq_zero (by have := h.1; omega)
    rw [hl]
    clear h hl
    have hrun := fun w => Lib.run_eql_slice_nil (P := Tryz.prog) w 49 48 none 0 c 0 0 Tryz.underlying49
    go_enter Tryz.func38, Tryz.ntmps38
    go_wp2_with (fail)
    go_ret
    exact ⟨none, 0, rfl, own_nil, Below.refl _ _⟩
  · have HR := Lib.hid h
    clear h
    have HE := Lib.hid (own_emptyG w 48 2)
    have HB := Lib.hid (below_oneG w (.cells #[] 48))
    have hrun := fun w => Lib.run_eql_slice_nil (P := Tryz.prog) w 49 48 (some a) n c 0 0 Tryz.underlying49
    go_enter Tryz.func38, Tryz.ntmps38
    go_wp2_with (at_builtin; refine wpList_cat elEdges rfl _ _ rfl HE.out rfl ((HR.out.below HB.out).more HB.out.size) rfl (ev_one _) (by unfold maxLen; omega) (by omega) (by simp) ?_; intro A1 c1 w1 hown p1)
    go_ret
    refine ⟨A1, c1, rfl, by simpa using hown, HB.out.trans (p1.below HE.out (Below.refl _ _) (Nat.le_refl _) HB.out.size)⟩

set_option maxRecDepth 100000 in
theorem cloneS_c (A : Option Addr) (n c : Nat) (l : List ByteArray) (w : World) (h : Reads w w.heap.size 1 A n (sv l)) (hn : n ≤ 1000000) :
    Calls Tryz.prog 102 #[.slice A n c] w fun e w' => ∃ A' c', e = .returned (.slice A' n c') ∧ w'.ownsRow w.heap.size 9 1 (.slice A' n c') n (sv l) ∧ Below w.heap.size w w' := by
  rcases A with _ | a
  · have h0 : n = 0 := by
      rcases Nat.eq_zero_or_pos n with h0 | h0
      · exact h0
      · obtain ⟨_, _, e, _⟩ := h.2 h0
        cases e
    subst h0
    have hl : sv l = [] := List.eq_nil_of_length_eq_zero (by have := h.1; omega)
    rw [hl]
    clear h hl
    have hrun := fun w => Lib.run_eql_slice_nil (P := Tryz.prog) w 22 9 none 0 c 0 0 Tryz.underlying22
    go_enter Tryz.func102, Tryz.ntmps102
    go_wp2_with (fail)
    go_ret
    exact ⟨none, 0, rfl, own_nil, Below.refl _ _⟩
  · have HR := Lib.hid h
    clear h
    have HE := Lib.hid (own_emptyG w 9 1)
    have HB := Lib.hid (below_oneG w (.cells #[] 9))
    have hrun := fun w => Lib.run_eql_slice_nil (P := Tryz.prog) w 22 9 (some a) n c 0 0 Tryz.underlying22
    go_enter Tryz.func102, Tryz.ntmps102
    go_wp2_with (at_builtin; refine wpList_cat elTexts rfl _ _ rfl HE.out rfl ((HR.out.below HB.out).more HB.out.size) rfl (sv_one _) (by unfold maxLen; omega) (by omega) (by simp) ?_; intro A1 c1 w1 hown p1)
    go_ret
    refine ⟨A1, c1, rfl, by simpa using hown, HB.out.trans (p1.below HE.out (Below.refl _ _) (Nat.le_refl _) HB.out.size)⟩
end Go.Proofs.YtpdnipabaimofaaGreat

namespace Go.Proofs.YtpdnipabaimofaaGreat
open Go.RowKit

/-- What Compact gives of a row that does not fall: elements that rise, of the row. -/
def CompDone {α : Type} (w w' : World) (base g _ c : Nat) (e : TypeId) (sz : Nat) (enc : List α → List Value) (lt : α → α → Prop) (l : List α) (en : Ending) : Prop :=
  ∃ (k : Nat) (l' : List α), en = .returned (.slice (some ⟨g, 0, none⟩) k c) ∧ Rises lt l' ∧ (∀ x ∈ l', x ∈ l) ∧ l'.length ≤ l.length ∧ w'.ownsRow base e sz (.slice (some ⟨g, 0, none⟩) k c) k (enc l') ∧ w.grownBy w' (some g)
theorem comp_all {α : Type} {w w' : World} {base g n c : Nat} {e : TypeId} {sz : Nat} {enc : List α → List Value} {lt : α → α → Prop} {l : List α} (h : Rises lt l) (ho : w'.ownsRow base e sz (.slice (some ⟨g, 0, none⟩) n c) n (enc l)) (hg : w.grownBy w' (some g)) :
    CompDone w w' base g n c e sz enc lt l (.returned (.slice (some ⟨g, 0, none⟩) n c)) := ⟨n, l, rfl, h, fun _ h => h, Nat.le_refl _, ho, hg⟩
theorem own_drewN {w : World} {base e size n c : Nat} {A : Option Addr} {xs : List Value} (h : w.ownsRow base e size (.slice A n c) n xs) (k : Nat) : (w.drewN k).ownsRow base e size (.slice A n c) n xs := own_below h (below_drewN (Below.refl _ _) k)
theorem E_at {w : World} {base e g k n c : Nat} {zs : List Edg} (h : w.ownsRow base e 2 (.slice (some ⟨g, 0, none⟩) n c) n (ev zs)) (hk : k < n) :
    ∃ m, Hid (zs[k]? = some m) ∧ w.cell? ⟨g, k * 2, none⟩ = some (.int .i64 m.src) ∧ w.cell? ⟨g, k * 2 + 1, none⟩ = some (.int .i64 m.dst) := by
  have hl : zs.length = n := by have := h.1; rw [ev_len] at this; omega
  have hx : zs[k]? = some (zs[k]'(by omega)) := List.getElem?_eq_getElem (by omega)
  have hf := fun r hr => flat_get ec 2 ec_len zs k r _ hx hr
  exact ⟨_, hx, by rw [h.cellAt _ (by omega)]; exact hf 0 (by omega), by rw [h.cellAt _ (by omega)]; exact hf 1 (by omega)⟩
theorem S_at {w : World} {base e g k n c : Nat} {zs : List ByteArray} (h : w.ownsRow base e 1 (.slice (some ⟨g, 0, none⟩) n c) n (sv zs)) (hk : k < n) : ∃ m, Hid (zs[k]? = some m) ∧ w.cell? ⟨g, k, none⟩ = some (.string m) := by
  have hl : zs.length = n := by have := h.1; simpa [sv] using this
  refine ⟨zs[k]'(by omega), List.getElem?_eq_getElem (by omega), ?_⟩
  rw [h.cellAt k (by omega)]
  simp [sv, show k < zs.length by omega]
theorem run_eql_edge (x y : Edg) (h : x ≠ y) (w : World) :
    (binOp .eql 48 (.agg #[.int .i64 x.src, .int .i64 x.dst]) (.agg #[.int .i64 y.src, .int .i64 y.dst])).run Tryz.prog w = .ok (.bool false) w := by
  have h' : ¬ (x.src = y.src ∧ x.dst = y.dst) := fun e => h ((Edg.eq_iff _ _).2 e)
  have H := Lib.hid h'
  clear h h'
  go_simp
  by_cases e1 : x.src = y.src
  · by_cases e2 : x.dst = y.dst
    · exact absurd ⟨e1, e2⟩ H.out
    · simp [e1, e2]
  · simp [e1]
theorem run_neq_edge2 (x y : Edg) (h : x ≠ y) (w : World) :
    (binOp .neq 48 (.agg #[.int .i64 x.src, .int .i64 x.dst]) (.agg #[.int .i64 y.src, .int .i64 y.dst])).run Tryz.prog w = .ok (.bool true) w := by
  have h' : ¬ (x.src = y.src ∧ x.dst = y.dst) := fun e => h ((Edg.eq_iff _ _).2 e)
  have H := Lib.hid h'
  clear h h'
  go_simp
  by_cases e1 : x.src = y.src
  · by_cases e2 : x.dst = y.dst
    · exact absurd ⟨e1, e2⟩ H.out
    · simp [e1, e2]
  · simp [e1]
theorem own_setE {w : World} {base e g n c k : Nat} {d : List Edg} (h : w.ownsRow base e 2 (.slice (some ⟨g, 0, none⟩) n c) n (ev d)) (u : Edg) :
    ((w.setCell ⟨g, k * 2, none⟩ (.int .i64 u.src)).setCell ⟨g, k * 2 + 1, none⟩ (.int .i64 u.dst)).ownsRow base e 2 (.slice (some ⟨g, 0, none⟩) n c) n (ev (d.set k u)) := by
  have h1 := ((h.stored (k * 2) (.int .i64 u.src)).1.stored (k * 2 + 1) (.int .i64 u.dst)).1
  rw [ev_set] at h1
  exact h1
theorem own_setS {w : World} {base e g n c k : Nat} {d : List ByteArray} (h : w.ownsRow base e 1 (.slice (some ⟨g, 0, none⟩) n c) n (sv d)) (u : ByteArray) :
    (w.setCell ⟨g, k, none⟩ (.string u)).ownsRow base e 1 (.slice (some ⟨g, 0, none⟩) n c) n (sv (d.set k u)) := by
  have h1 := (h.stored k (.string u)).1
  rw [sv_set] at h1
  exact h1
theorem only_grown1 {a w w' : World} {g : Nat} (h : a.grownBy w (some g)) (k : w.grownBy w' (some g)) : a.grownBy w' (some g) := only_trans_rowG h k
theorem totE (a b : Edg) (h : ¬ lessE b a) (hne : a ≠ b) : lessE a b := by
  have h2 : ¬ (a.src = b.src ∧ a.dst = b.dst) := fun e => hne ((Edg.eq_iff _ _).2 e)
  unfold lessE at *
  omega
theorem totW (a b : ByteArray) (h : ¬ ltW b a) (hne : a ≠ b) : ltW a b := by
  unfold ltW at *
  rcases Decidable.em (a.toList < b.toList) with h1 | h1
  · exact h1
  · refine absurd ?_ hne
    have h2 := List.le_antisymm (List.not_lt.1 h) (List.not_lt.1 h1)
    rw [Go.ByteArray.toList_eq, Go.ByteArray.toList_eq] at h2
    exact bytes_extG h2

set_option maxRecDepth 100000 in
set_option maxHeartbeats 4000000 in
theorem compactE_c (g n c base : Nat) (l : List Edg) (w : World) (ho : w.ownsRow base 48 2 (.slice (some ⟨g, 0, none⟩) n c) n (ev l)) (hs : l.Pairwise (fun a b => ¬ lessE b a)) (hn : n ≤ 1000000) :
    Calls Tryz.prog 101 #[.slice (some ⟨g, 0, none⟩) n c] w fun e w' => CompDone w w' base g n c 48 2 (ev) (lessE) l e := by
  have hl : l.length = n := by have h := ho.1; rw [ev_len] at h; omega
  have HL := Lib.hid hl
  have HS := Lib.hid hs
  have hcap := (own_cap ho).1
  have HO := Lib.hid ho
  clear ho hs
  by_cases h2 : n < 2
  · have H := Lib.hid (kept_all totE HS.out (j := 0) (fun m a b hm => absurd hm (Nat.not_lt_zero _)) (by omega))
    have h2' : (n : Int) < 2 := by omega
    clear hl
    go_enter Tryz.func101, Tryz.ntmps101
    go_wp2_with (fail)
    go_ret
    exact comp_all H.out HO.out (World.grownBy.refl _ _)
  · have h2' : ¬ (n : Int) < 2 := by omega
    clear hl
    go_enter Tryz.func101, Tryz.ntmps101
    go_wp2_with (fail)
    go_loopw [3] (fun i wr => ∃ j : Nat, j + 1 ≤ n ∧ i = .int .i64 ((j : Int) + 1) ∧ Hid (risesTo (fun a b => a ≠ b) l j) ∧ wr.ownsRow base 48 2 (.slice (some ⟨g, 0, none⟩) n c) n (ev l) ∧ w.grownBy wr (some g)) (fun i _ => n - (intOf i).toNat)
    case atStart => exact ⟨0, by omega, rfl, fun m a b hm => absurd hm (Nat.not_lt_zero _), HO.out, World.grownBy.refl _ _⟩
    case round =>
      clear HO
      obtain ⟨j, hj, rfl, hr, ho, hG⟩ := hrel
      by_cases hlt : j + 1 < n
      · obtain ⟨x, hx, d0, d1⟩ := E_at ho (k := j + 1) hlt
        obtain ⟨y, hy, e0, e1⟩ := E_at ho (k := j) (by omega)
        have f1 : (0 : Int) ≤ (j : Int) := by omega
        have f2 : (j : Int) < (n : Int) := by omega
        have f3 : (0 : Int) ≤ (j : Int) + 1 := by omega
        have f4 : (j : Int) + 1 < (n : Int) := by omega
        have f5 : IntKind.i64.wrap (j : Int) = (j : Int) := IntWalk.i64_in _ (by omega)
        have f6 : ((j : Int) + 1).toNat = j + 1 := by omega
        have HO := Lib.hid ho
        have HG := Lib.hid hG
        clear ho hG
        by_cases hxy : x = y
        · subst hxy
          have HK := Lib.hid (kept_start totE HS.out hr.out hy.out hx.out)
          go_wp2_with (fail)
          go_quiet (fail)
          go_wp2_with (fail)
          have HO := Lib.hid (own_drewN HO.out nq)
          have HG := Lib.hid (only_drewN HG.out nq)
          generalize wr.drewN nq = wr at HO HG ⊢
          clear d0 d1 e0 e1 f1 f2 f3 f4 f5 f6 hr
          go_loopw [3, 5] (fun s3 s5 wr => ∃ (k i2 : Nat) (d : List Edg), s3 = .int .i64 k ∧ s5 = .int .i64 ((i2 : Int) + 1) ∧ k ≤ j + 1 + i2 ∧ j + 1 + i2 + 1 ≤ n ∧ Hid (d.length = n) ∧ Hid (∀ m, j + 1 + i2 ≤ m → d[m]? = l[m]?) ∧ Hid (Kept lessE l (d.take k) (j + 1 + i2)) ∧
              wr.ownsRow base 48 2 (.slice (some ⟨g, 0, none⟩) n c) n (ev d) ∧ w.grownBy wr (some g)) (fun _ s5 _ => n - (intOf s5).toNat)
          case atStart => exact ⟨j + 1, 0, l, rfl, rfl, by omega, by omega, HL.out, fun _ _ => rfl, HK.out, HO.out, HG.out⟩
          case round =>
            clear HK HO HG
            obtain ⟨k, i2, d, rfl, rfl, hk, hi, hdl, hdm, hkp, ho, hG⟩ := hrel
            by_cases hlt2 : j + 1 + i2 + 1 < n
            · obtain ⟨u, hu, d0, d1⟩ := E_at ho (k := j + 1 + (i2 + 1)) (by omega)
              obtain ⟨v, hv, e0, e1⟩ := E_at ho (k := j + 1 + i2) (by omega)
              obtain ⟨o, -, p0, p1⟩ := E_at ho (k := k) (by omega)
              rw [Nat.add_mul] at d0 d1 e0 e1
              have g0 := ho.frozenAt (k * 2)
              have g1 := ho.frozenAt (k * 2 + 1)
              have hlu : Hid (l[j + 1 + i2 + 1]? = some u) := (hdm.out (j + 1 + i2 + 1) (by omega)).symm.trans hu.out
              have hlv : Hid (l[j + 1 + i2]? = some v) := (hdm.out (j + 1 + i2) (Nat.le_refl _)).symm.trans hv.out
              have f1 : (0 : Int) ≤ (i2 : Int) := by omega
              have f2 : (i2 : Int) < ((n - (j + 1) : Nat) : Int) := by omega
              have f3 : (0 : Int) ≤ (i2 : Int) + 1 := by omega
              have f4 : (i2 : Int) + 1 < ((n - (j + 1) : Nat) : Int) := by omega
              have f5 : IntKind.i64.wrap (i2 : Int) = (i2 : Int) := IntWalk.i64_in _ (by omega)
              have f6 : ((i2 : Int) + 1).toNat = i2 + 1 := by omega
              have HO := Lib.hid ho
              have HG := Lib.hid hG
              clear ho hG
              by_cases huv : u = v
              · subst huv
                have H := Lib.hid (kept_same hkp.out hlv.out hlu.out)
                go_wp2_with (fail)
                go_quiet (fail)
                go_wp2_with (fail)
                go_roundw
                case rel => exact ⟨k, i2 + 1, d, rfl, by go_num, by omega, by omega, hdl.out, fun m hm => hdm.out m (by omega), H.out, own_drewN HO.out _, only_drewN HG.out _⟩
                case measure => simp [intOf]; omega
              · have hrun := run_neq_edge2 u v huv
                have H : Hid (Kept lessE l ((d.set k u).take (k + 1)) (j + 1 + i2 + 1)) := by
                  show Kept _ _ _ _
                  rw [take_set_more (by have := hdl.out; omega)]
                  exact kept_more totE HS.out hkp.out hlv.out hlu.out (fun e => huv e.symm)
                have HD : Hid (∀ m, j + 1 + i2 + 1 ≤ m → (d.set k u)[m]? = l[m]?) := fun m hm => by rw [List.getElem?_set_ne (by omega)]; exact hdm.out m (by omega)
                have HDL : Hid ((d.set k u).length = n) := by show _ = _; rw [List.length_set]; exact hdl.out
                clear huv
                go_wp2_with (fail)
                go_quiet (fail)
                go_wp2_with (fail)
                go_roundw
                case rel => exact ⟨k + 1, i2 + 1, d.set k u, by go_num, by go_num, by omega, by omega, HDL.out, HD.out, H.out, own_setE (own_drewN HO.out _) u, only_setCellS (only_setCellS (only_drewN HG.out _) _ _) _ _⟩
                case measure => simp [intOf]; omega
            · have HO := Lib.hid ho
              have HG := Lib.hid hG
              have hkn : k < n := by omega
              obtain ⟨w6, hrun, ho6, hg6⟩ := run_clear_own (P := Tryz.prog) (w := wr) (t := 49) Tryz.underlying49 Tryz.zeroValue48 rfl (by intro u hu; simp [Value.cells] at hu; rcases hu with rfl | rfl <;> rfl) ho (k := k) (by omega) (dp := some ⟨g, k * 2, none⟩) (m := n - k) (d := c - k) rfl (fun _ => by first | rfl | (show some (⟨g, k, none⟩ : Addr) = some ⟨g, k * 1, none⟩; rw [Nat.mul_one]))
              have f1 : ¬ (i2 : Int) + 1 < ((n - (j + 1) : Nat) : Int) := by omega
              have HO6 : Hid (w6.ownsRow base 48 2 (.slice (some ⟨g, 0, none⟩) k c) k (ev (d.take k))) := by
                show World.ownsRow _ _ _ _ _ _ _
                rw [← ev_take]
                exact ho6
              have HG6 := Lib.hid (only_grown1 HG.out hg6)
              have hkl : Hid ((d.take k).length ≤ l.length) := by show _ ≤ _; rw [List.length_take, HL.out, hdl.out]; omega
              clear ho hG ho6 hg6
              go_wp2_with (fail)
              go_ret
              exact ⟨k, d.take k, rfl, hkp.out.rise, hkp.out.mem, hkl.out, HO6.out, HG6.out⟩
        · have hrun := run_eql_edge x y hxy
          have H := Lib.hid (rises_more hr.out hy.out hx.out (fun e => hxy e.symm))
          clear hxy
          go_wp2_with (fail)
          go_quiet (fail)
          go_wp2_with (fail)
          go_roundw
          case rel => exact ⟨j + 1, by omega, by go_num, H.out, own_drewN HO.out _, only_drewN HG.out _⟩
          case measure => simp [intOf]; omega
      · have H := Lib.hid (kept_all totE HS.out hr.out (by have := HL.out; omega))
        have HO := Lib.hid ho
        have HG := Lib.hid hG
        clear ho hG
        go_wp2_with (fail)
        go_ret
        exact comp_all H.out HO.out HG.out

set_option maxRecDepth 100000 in
set_option maxHeartbeats 4000000 in
theorem compactS_c (g n c base : Nat) (l : List ByteArray) (w : World) (ho : w.ownsRow base 9 1 (.slice (some ⟨g, 0, none⟩) n c) n (sv l)) (hs : l.Pairwise (fun a b => ¬ ltW b a)) (hn : n ≤ 1000000) :
    Calls Tryz.prog 104 #[.slice (some ⟨g, 0, none⟩) n c] w fun e w' => CompDone w w' base g n c 9 1 (sv) (ltW) l e := by
  have hl : l.length = n := by have h := ho.1; simpa [sv] using h
  have HL := Lib.hid hl
  have HS := Lib.hid hs
  have hcap := (own_cap ho).1
  have HO := Lib.hid ho
  clear ho hs
  by_cases h2 : n < 2
  · have H := Lib.hid (kept_all totW HS.out (j := 0) (fun m a b hm => absurd hm (Nat.not_lt_zero _)) (by omega))
    have h2' : (n : Int) < 2 := by omega
    clear hl
    go_enter Tryz.func104, Tryz.ntmps104
    go_wp2_with (fail)
    go_ret
    exact comp_all H.out HO.out (World.grownBy.refl _ _)
  · have h2' : ¬ (n : Int) < 2 := by omega
    clear hl
    go_enter Tryz.func104, Tryz.ntmps104
    go_wp2_with (fail)
    go_loopw [3] (fun i wr => ∃ j : Nat, j + 1 ≤ n ∧ i = .int .i64 ((j : Int) + 1) ∧ Hid (risesTo (fun a b => a ≠ b) l j) ∧ wr.ownsRow base 9 1 (.slice (some ⟨g, 0, none⟩) n c) n (sv l) ∧ w.grownBy wr (some g)) (fun i _ => n - (intOf i).toNat)
    case atStart => exact ⟨0, by omega, rfl, fun m a b hm => absurd hm (Nat.not_lt_zero _), HO.out, World.grownBy.refl _ _⟩
    case round =>
      clear HO
      obtain ⟨j, hj, rfl, hr, ho, hG⟩ := hrel
      by_cases hlt : j + 1 < n
      · obtain ⟨x, hx, d0⟩ := S_at ho (k := j + 1) hlt
        obtain ⟨y, hy, e0⟩ := S_at ho (k := j) (by omega)
        have f1 : (0 : Int) ≤ (j : Int) := by omega
        have f2 : (j : Int) < (n : Int) := by omega
        have f3 : (0 : Int) ≤ (j : Int) + 1 := by omega
        have f4 : (j : Int) + 1 < (n : Int) := by omega
        have f5 : IntKind.i64.wrap (j : Int) = (j : Int) := IntWalk.i64_in _ (by omega)
        have f6 : ((j : Int) + 1).toNat = j + 1 := by omega
        have HO := Lib.hid ho
        have HG := Lib.hid hG
        clear ho hG
        by_cases hxy : x = y
        · subst hxy
          have HK := Lib.hid (kept_start totW HS.out hr.out hy.out hx.out)
          go_wp2_with (fail)
          go_quiet (fail)
          go_wp2_with (fail)
          have HO := Lib.hid (own_drewN HO.out nq)
          have HG := Lib.hid (only_drewN HG.out nq)
          generalize wr.drewN nq = wr at HO HG ⊢
          clear d0 e0 f1 f2 f3 f4 f5 f6 hr
          go_loopw [3, 5] (fun s3 s5 wr => ∃ (k i2 : Nat) (d : List ByteArray), s3 = .int .i64 k ∧ s5 = .int .i64 ((i2 : Int) + 1) ∧ k ≤ j + 1 + i2 ∧ j + 1 + i2 + 1 ≤ n ∧ Hid (d.length = n) ∧ Hid (∀ m, j + 1 + i2 ≤ m → d[m]? = l[m]?) ∧ Hid (Kept ltW l (d.take k) (j + 1 + i2)) ∧
              wr.ownsRow base 9 1 (.slice (some ⟨g, 0, none⟩) n c) n (sv d) ∧ w.grownBy wr (some g)) (fun _ s5 _ => n - (intOf s5).toNat)
          case atStart => exact ⟨j + 1, 0, l, rfl, rfl, by omega, by omega, HL.out, fun _ _ => rfl, HK.out, HO.out, HG.out⟩
          case round =>
            clear HK HO HG
            obtain ⟨k, i2, d, rfl, rfl, hk, hi, hdl, hdm, hkp, ho, hG⟩ := hrel
            by_cases hlt2 : j + 1 + i2 + 1 < n
            · obtain ⟨u, hu, d0⟩ := S_at ho (k := j + 1 + (i2 + 1)) (by omega)
              obtain ⟨v, hv, e0⟩ := S_at ho (k := j + 1 + i2) (by omega)
              obtain ⟨o, -, p0⟩ := S_at ho (k := k) (by omega)
              skip
              have g0 := ho.frozenAt k
              have hlu : Hid (l[j + 1 + i2 + 1]? = some u) := (hdm.out (j + 1 + i2 + 1) (by omega)).symm.trans hu.out
              have hlv : Hid (l[j + 1 + i2]? = some v) := (hdm.out (j + 1 + i2) (Nat.le_refl _)).symm.trans hv.out
              have f1 : (0 : Int) ≤ (i2 : Int) := by omega
              have f2 : (i2 : Int) < ((n - (j + 1) : Nat) : Int) := by omega
              have f3 : (0 : Int) ≤ (i2 : Int) + 1 := by omega
              have f4 : (i2 : Int) + 1 < ((n - (j + 1) : Nat) : Int) := by omega
              have f5 : IntKind.i64.wrap (i2 : Int) = (i2 : Int) := IntWalk.i64_in _ (by omega)
              have f6 : ((i2 : Int) + 1).toNat = i2 + 1 := by omega
              have HO := Lib.hid ho
              have HG := Lib.hid hG
              clear ho hG
              by_cases huv : u = v
              · subst huv
                have H := Lib.hid (kept_same hkp.out hlv.out hlu.out)
                go_wp2_with (fail)
                go_quiet (fail)
                go_wp2_with (fail)
                go_roundw
                case rel => exact ⟨k, i2 + 1, d, rfl, by go_num, by omega, by omega, hdl.out, fun m hm => hdm.out m (by omega), H.out, own_drewN HO.out _, only_drewN HG.out _⟩
                case measure => simp [intOf]; omega
              · have hb : (u.toList == v.toList) = false := by rw [bytes_beq]; exact decide_eq_false huv
                have hb2 : (u.toList != v.toList) = true := by unfold bne; rw [hb]; rfl
                have H : Hid (Kept ltW l ((d.set k u).take (k + 1)) (j + 1 + i2 + 1)) := by
                  show Kept _ _ _ _
                  rw [take_set_more (by have := hdl.out; omega)]
                  exact kept_more totW HS.out hkp.out hlv.out hlu.out (fun e => huv e.symm)
                have HD : Hid (∀ m, j + 1 + i2 + 1 ≤ m → (d.set k u)[m]? = l[m]?) := fun m hm => by rw [List.getElem?_set_ne (by omega)]; exact hdm.out m (by omega)
                have HDL : Hid ((d.set k u).length = n) := by show _ = _; rw [List.length_set]; exact hdl.out
                clear huv
                go_wp2_with (fail)
                go_quiet (fail)
                go_wp2_with (fail)
                go_roundw
                case rel => exact ⟨k + 1, i2 + 1, d.set k u, by go_num, by go_num, by omega, by omega, HDL.out, HD.out, H.out, own_setS (own_drewN HO.out _) u, only_setCellS (only_drewN HG.out _) _ _⟩
                case measure => simp [intOf]; omega
            · have HO := Lib.hid ho
              have HG := Lib.hid hG
              have hkn : k < n := by omega
              obtain ⟨w6, hrun, ho6, hg6⟩ := run_clear_own (P := Tryz.prog) (w := wr) (t := 22) Tryz.underlying22 Tryz.zeroValue9 rfl (by intro u hu; simp [Value.cells] at hu; subst hu; rfl) ho (k := k) (by omega) (dp := some ⟨g, k, none⟩) (m := n - k) (d := c - k) rfl (fun _ => by first | rfl | (show some (⟨g, k, none⟩ : Addr) = some ⟨g, k * 1, none⟩; rw [Nat.mul_one]))
              have f1 : ¬ (i2 : Int) + 1 < ((n - (j + 1) : Nat) : Int) := by omega
              have HO6 : Hid (w6.ownsRow base 9 1 (.slice (some ⟨g, 0, none⟩) k c) k (sv (d.take k))) := by
                show World.ownsRow _ _ _ _ _ _ _
                rw [← sv_take]
                exact ho6
              have HG6 := Lib.hid (only_grown1 HG.out hg6)
              have hkl : Hid ((d.take k).length ≤ l.length) := by show _ ≤ _; rw [List.length_take, HL.out, hdl.out]; omega
              clear ho hG ho6 hg6
              go_wp2_with (fail)
              go_ret
              exact ⟨k, d.take k, rfl, hkp.out.rise, hkp.out.mem, hkl.out, HO6.out, HG6.out⟩
        · have hb : (x.toList == y.toList) = false := by rw [bytes_beq]; exact decide_eq_false hxy
          have H := Lib.hid (rises_more hr.out hy.out hx.out (fun e => hxy e.symm))
          clear hxy
          go_wp2_with (fail)
          go_quiet (fail)
          go_wp2_with (fail)
          go_roundw
          case rel => exact ⟨j + 1, by omega, by go_num, H.out, own_drewN HO.out _, only_drewN HG.out _⟩
          case measure => simp [intOf]; omega
      · have H := Lib.hid (kept_all totW HS.out hr.out (by have := HL.out; omega))
        have HO := Lib.hid ho
        have HG := Lib.hid hG
        clear ho hG
        go_wp2_with (fail)
        go_ret
        exact comp_all H.out HO.out HG.out
end Go.Proofs.YtpdnipabaimofaaGreat

namespace Go.Proofs.YtpdnipabaimofaaGreat
open Go.RowKit Go.Shelf Go.Lib Go.Sort

theorem two_allocs (W : World) (o1 o2 : Obj) : (W.alloc o1).alloc o2 = grow W (#[o1] ++ #[o2]) := by
  simp only [grow, World.alloc]
  congr 1

set_option maxRecDepth 100000 in
set_option maxHeartbeats 1000000 in
theorem ordE_grow (x y : Edg) (W : World) : Calls Tryz.prog 70 #[.agg (ec x).toArray, .agg (ec y).toArray] W fun e w' => e = .returned (.int .i64 (cmpE x y)) ∧ ∃ q os', w' = grow (W.drewN q) os' := by
  unfold ec
  go_enter Tryz.func70, Tryz.ntmps70
  go_wp2_with (fail)
  have h1 : ((W.alloc (.cells #[.int .i64 x.src, .int .i64 x.dst] 48)).alloc (.cells #[.int .i64 y.src, .int .i64 y.dst] 48)).heap[W.heap.size]? = some (.cells #[.int .i64 x.src, .int .i64 x.dst] 48 (0, 0)) := by
    rw [Below.heap_alloc _ _ _ (by simp)]; exact Array.getElem?_push_size
  have h2 : ((W.alloc (.cells #[.int .i64 x.src, .int .i64 x.dst] 48)).alloc (.cells #[.int .i64 y.src, .int .i64 y.dst] 48)).heap[W.heap.size + 1]? = some (.cells #[.int .i64 y.src, .int .i64 y.dst] 48 (0, 0)) := by
    rw [← World.size_alloc W (.cells #[.int .i64 x.src, .int .i64 x.dst] 48)]; exact Array.getElem?_push_size
  have h3 := two_allocs W (.cells #[.int .i64 x.src, .int .i64 x.dst] 48) (.cells #[.int .i64 y.src, .int .i64 y.dst] 48)
  generalize ((W.alloc (.cells #[.int .i64 x.src, .int .i64 x.dst] 48)).alloc (.cells #[.int .i64 y.src, .int .i64 y.dst] 48)) = w2 at h1 h2 h3 ⊢
  have a0 : w2.cell? ⟨W.heap.size, 0, none⟩ = some (.int .i64 x.src) := by rw [Lib.cell_of_heap h1]; rfl
  have a1 : w2.cell? ⟨W.heap.size, 1, none⟩ = some (.int .i64 x.dst) := by rw [Lib.cell_of_heap h1]; rfl
  have b0 : w2.cell? ⟨W.heap.size + 1, 0, none⟩ = some (.int .i64 y.src) := by rw [Lib.cell_of_heap h2]; rfl
  have b1 : w2.cell? ⟨W.heap.size + 1, 1, none⟩ = some (.int .i64 y.dst) := by rw [Lib.cell_of_heap h2]; rfl
  have H3 : Hid (w2.drew = grow (W.drewN 1) _) := show w2.drew = _ from by rw [h3]; rfl
  clear h1 h2 h3
  refine wp_region_still_tail 10 (by kernel_rfl) (by kernel_rfl) ?_
  simp only [List.take_succ_cons, List.take_zero, List.drop_succ_cons, List.drop_zero]
  obtain ⟨w3, hw3⟩ : ∃ w3, w3 = w2.drew := ⟨_, rfl⟩
  change w2.drew.cell? _ = _ at a0 a1 b0 b1
  rw [← hw3] at a0 a1 b0 b1 H3
  change wpStill _ _ w2.drew (fun a' => wpList _ _ _ _ a' w2.drew) _ _
  rw [← hw3]
  clear hw3
  repeat still_step
  still_call (compare_cG _ _ _)
  repeat still_step
  still_call (compare_cG _ _ _)
  repeat still_step
  refine wpStill_nil ?_
  go_wp2_with (fail)
  have hn : (w3.alloc (.cells #[.int .i64 (compareInt x.src y.src), .int .i64 (compareInt x.dst y.dst)] 3)).heap[w3.heap.size]? = some (.cells #[.int .i64 (compareInt x.src y.src), .int .i64 (compareInt x.dst y.dst)] 3 (0, 0)) := Array.getElem?_push_size
  refine (or_cG _ _ _ _ (by rw [Lib.cell_of_heap hn]; rfl) (by rw [Lib.cell_of_heap hn]; rfl)).mono ?_
  rintro e w4 ⟨rfl, rfl⟩
  go_wp2_with (fail)
  go_ret
  obtain ⟨os3, H4⟩ : ∃ os, w3 = grow (W.drewN 1) os := ⟨_, H3.out⟩
  clear H3 a0 a1 b0 b1 hn
  subst H4
  exact ⟨rfl, 1, _, (alloc_eq_grow _ _).trans (grow_grow _ _ _)⟩

theorem ordW_grow (x y : ByteArray) (W : World) : Calls Tryz.prog 67 #[.string x, .string y] W fun e w' => e = .returned (.int .i64 (cmpW x y)) ∧ ∃ q os', w' = grow (W.drewN q) os' := by
  refine (ordW_c x y W).mono ?_
  rintro e w' ⟨rfl, rfl⟩
  exact ⟨rfl, 0, #[], by rw [grow_empty]; rfl⟩

theorem lt_cmpE (x y : Edg) : ltOf cmpE x y = decide (lessE x y) := by
  unfold ltOf
  rw [Bool.eq_iff_iff, decide_eq_true_iff, decide_eq_true_iff]
  exact cmpE_neg x y
theorem lt_cmpW (x y : ByteArray) : ltOf cmpW x y = decide (ltW x y) := by
  unfold ltOf
  rw [Bool.eq_iff_iff, decide_eq_true_iff, decide_eq_true_iff]
  exact cmpW_neg x y
theorem swo_cmpE : SWO (ltOf cmpE) where
  irrefl x := by rw [lt_cmpE]; simp only [decide_eq_false_iff_not]; unfold lessE; omega
  trans x y z h1 h2 := by rw [lt_cmpE] at *; simp only [decide_eq_true_eq] at *; unfold lessE at *; omega
  ntrans x y z h1 h2 := by rw [lt_cmpE] at *; simp only [decide_eq_false_iff_not] at *; unfold lessE at *; omega
theorem swo_cmpW : SWO (ltOf cmpW) where
  irrefl x := by rw [lt_cmpW]; simp only [decide_eq_false_iff_not]; exact List.lt_irrefl _
  trans x y z h1 h2 := by rw [lt_cmpW] at *; simp only [decide_eq_true_eq] at *; exact List.lt_trans h1 h2
  ntrans x y z h1 h2 := by
    rw [lt_cmpW] at *
    simp only [decide_eq_false_iff_not] at *
    exact List.not_lt.2 (List.le_trans (List.not_lt.1 h2) (List.not_lt.1 h1))
end Go.Proofs.YtpdnipabaimofaaGreat

namespace Go.Proofs.YtpdnipabaimofaaGreat
open Go.Shelf
def sortEdge_ren : Go.Shelf.Ren := ⟨fun | 6 => 100 | 15 => 94 | 14 => 134 | 28 => 120 | 29 => 121 | 20 => 152 | 21 => 153 | 22 => 154 | 23 => 155 | 24 => 156 | 25 => 157 | 26 => 158 | 27 => 159 | 46 => 183 | 47 => 139 | 48 => 140 | 49 => 184 | 50 => 185 | 57 => 201 | n => n, fun | 22 => 49 | 24 => 48 | 25 => 97 | 3 => 3 | 39 => 147 | 0 => 0 | 53 => 185 | 55 => 187 | 4 => 4 | 46 => 179 | 45 => 178 | 50 => 54 | 5 => 5 | 9 => 9 | 66 => 207 | 70 => 211 | 76 => 239 | 77 => 240 | n => n, fun | n => n⟩
theorem sortEdge : Go.Proofs.SlLaysF0.n6 Tryz.prog sortEdge_ren := {
  mixed := by kernel_rfl
  f6 := ⟨Tryz.f100.name, by decide, Tryz.func100.trans (congrArg some (by kernel_rfl))⟩
  f14 := ⟨Tryz.f134.name, by decide, Tryz.func134.trans (congrArg some (by kernel_rfl))⟩
  f15 := Tryz.func94.trans (congrArg some (by kernel_rfl))
  f20 := ⟨Tryz.f152.name, by decide, Tryz.func152.trans (congrArg some (by kernel_rfl))⟩
  f21 := ⟨Tryz.f153.name, by decide, Tryz.func153.trans (congrArg some (by kernel_rfl))⟩
  f22 := ⟨Tryz.f154.name, by decide, Tryz.func154.trans (congrArg some (by kernel_rfl))⟩
  f23 := ⟨Tryz.f155.name, by decide, Tryz.func155.trans (congrArg some (by kernel_rfl))⟩
  f24 := ⟨Tryz.f156.name, by decide, Tryz.func156.trans (congrArg some (by kernel_rfl))⟩
  f25 := ⟨Tryz.f157.name, by decide, Tryz.func157.trans (congrArg some (by kernel_rfl))⟩
  f26 := ⟨Tryz.f158.name, by decide, Tryz.func158.trans (congrArg some (by kernel_rfl))⟩
  f27 := ⟨Tryz.f159.name, by decide, Tryz.func159.trans (congrArg some (by kernel_rfl))⟩
  f28 := Tryz.func120.trans (congrArg some (by kernel_rfl))
  f29 := Tryz.func121.trans (congrArg some (by kernel_rfl))
  f46 := ⟨Tryz.f183.name, by decide, Tryz.func183.trans (congrArg some (by kernel_rfl))⟩
  f47 := Tryz.func139.trans (congrArg some (by kernel_rfl))
  f48 := Tryz.func140.trans (congrArg some (by kernel_rfl))
  f49 := ⟨Tryz.f184.name, by decide, Tryz.func184.trans (congrArg some (by kernel_rfl))⟩
  f50 := ⟨Tryz.f185.name, by decide, Tryz.func185.trans (congrArg some (by kernel_rfl))⟩
  f57 := ⟨Tryz.f201.name, by decide, Tryz.func201.trans (congrArg some (by kernel_rfl))⟩
  t0 := Tryz.underlying0
  a0 := Tryz.isAgg0
  z0 := Tryz.sizeOf0
  v0 := Tryz.zeroValue0
  t3 := Tryz.underlying3
  a3 := Tryz.isAgg3
  z3 := Tryz.sizeOf3
  v3 := Tryz.zeroValue3
  t4 := Tryz.underlying4
  a4 := Tryz.isAgg4
  z4 := Tryz.sizeOf4
  v4 := Tryz.zeroValue4
  t5 := Tryz.underlying5
  a5 := Tryz.isAgg5
  z5 := Tryz.sizeOf5
  v5 := Tryz.zeroValue5
  t9 := Tryz.underlying9
  a9 := Tryz.isAgg9
  z9 := Tryz.sizeOf9
  v9 := Tryz.zeroValue9
  t22 := Tryz.underlying49
  a22 := Tryz.isAgg49
  z22 := Tryz.sizeOf49
  v22 := Tryz.zeroValue49
  t25 := Tryz.underlying97
  a25 := Tryz.isAgg97
  z25 := Tryz.sizeOf97
  v25 := Tryz.zeroValue97
  t39 := Tryz.underlying147
  a39 := Tryz.isAgg147
  z39 := Tryz.sizeOf147
  v39 := Tryz.zeroValue147
  t45 := Tryz.underlying178
  a45 := Tryz.isAgg178
  z45 := Tryz.sizeOf178
  v45 := Tryz.zeroValue178
  t46 := Tryz.underlying179
  a46 := Tryz.isAgg179
  z46 := Tryz.sizeOf179
  v46 := Tryz.zeroValue179
  t50 := Tryz.underlying54
  a50 := Tryz.isAgg54
  z50 := Tryz.sizeOf54
  v50 := Tryz.zeroValue54
  t53 := Tryz.underlying185
  a53 := Tryz.isAgg185
  z53 := Tryz.sizeOf185
  v53 := Tryz.zeroValue185
  t55 := Tryz.underlying187
  a55 := Tryz.isAgg187
  z55 := Tryz.sizeOf187
  v55 := Tryz.zeroValue187
  t66 := Tryz.underlying207
  a66 := Tryz.isAgg207
  z66 := Tryz.sizeOf207
  v66 := Tryz.zeroValue207
  t70 := Tryz.underlying211
  a70 := Tryz.isAgg211
  z70 := Tryz.sizeOf211
  v70 := Tryz.zeroValue211
  t76 := Tryz.underlying239
  a76 := Tryz.isAgg239
  z76 := Tryz.sizeOf239
  v76 := Tryz.zeroValue239
  t77 := Tryz.underlying240
  a77 := Tryz.isAgg240
  z77 := Tryz.sizeOf240
  v77 := Tryz.zeroValue240 }
end Go.Proofs.YtpdnipabaimofaaGreat

namespace Go.Proofs.YtpdnipabaimofaaGreat
open Go.Shelf
def sortText_ren : Go.Shelf.Ren := ⟨fun | 6 => 103 | 15 => 94 | 14 => 135 | 28 => 120 | 29 => 121 | 20 => 160 | 21 => 161 | 22 => 162 | 23 => 163 | 24 => 164 | 25 => 165 | 26 => 166 | 27 => 167 | 46 => 186 | 47 => 139 | 48 => 140 | 49 => 187 | 50 => 188 | 57 => 202 | n => n, fun | 22 => 22 | 24 => 9 | 25 => 92 | 3 => 3 | 39 => 147 | 0 => 0 | 53 => 185 | 55 => 187 | 4 => 4 | 46 => 179 | 45 => 178 | 50 => 54 | 5 => 5 | 9 => 9 | 66 => 207 | 70 => 211 | 76 => 239 | 77 => 240 | n => n, fun | n => n⟩
theorem sortText : Go.Proofs.SlLaysF.n6 Tryz.prog sortText_ren := {
  mixed := by kernel_rfl
  f6 := ⟨Tryz.f103.name, by decide, Tryz.func103.trans (congrArg some (by kernel_rfl))⟩
  f14 := ⟨Tryz.f135.name, by decide, Tryz.func135.trans (congrArg some (by kernel_rfl))⟩
  f15 := Tryz.func94.trans (congrArg some (by kernel_rfl))
  f20 := ⟨Tryz.f160.name, by decide, Tryz.func160.trans (congrArg some (by kernel_rfl))⟩
  f21 := ⟨Tryz.f161.name, by decide, Tryz.func161.trans (congrArg some (by kernel_rfl))⟩
  f22 := ⟨Tryz.f162.name, by decide, Tryz.func162.trans (congrArg some (by kernel_rfl))⟩
  f23 := ⟨Tryz.f163.name, by decide, Tryz.func163.trans (congrArg some (by kernel_rfl))⟩
  f24 := ⟨Tryz.f164.name, by decide, Tryz.func164.trans (congrArg some (by kernel_rfl))⟩
  f25 := ⟨Tryz.f165.name, by decide, Tryz.func165.trans (congrArg some (by kernel_rfl))⟩
  f26 := ⟨Tryz.f166.name, by decide, Tryz.func166.trans (congrArg some (by kernel_rfl))⟩
  f27 := ⟨Tryz.f167.name, by decide, Tryz.func167.trans (congrArg some (by kernel_rfl))⟩
  f28 := Tryz.func120.trans (congrArg some (by kernel_rfl))
  f29 := Tryz.func121.trans (congrArg some (by kernel_rfl))
  f46 := ⟨Tryz.f186.name, by decide, Tryz.func186.trans (congrArg some (by kernel_rfl))⟩
  f47 := Tryz.func139.trans (congrArg some (by kernel_rfl))
  f48 := Tryz.func140.trans (congrArg some (by kernel_rfl))
  f49 := ⟨Tryz.f187.name, by decide, Tryz.func187.trans (congrArg some (by kernel_rfl))⟩
  f50 := ⟨Tryz.f188.name, by decide, Tryz.func188.trans (congrArg some (by kernel_rfl))⟩
  f57 := ⟨Tryz.f202.name, by decide, Tryz.func202.trans (congrArg some (by kernel_rfl))⟩
  t0 := Tryz.underlying0
  a0 := Tryz.isAgg0
  z0 := Tryz.sizeOf0
  v0 := Tryz.zeroValue0
  t3 := Tryz.underlying3
  a3 := Tryz.isAgg3
  z3 := Tryz.sizeOf3
  v3 := Tryz.zeroValue3
  t4 := Tryz.underlying4
  a4 := Tryz.isAgg4
  z4 := Tryz.sizeOf4
  v4 := Tryz.zeroValue4
  t5 := Tryz.underlying5
  a5 := Tryz.isAgg5
  z5 := Tryz.sizeOf5
  v5 := Tryz.zeroValue5
  t9 := Tryz.underlying9
  a9 := Tryz.isAgg9
  z9 := Tryz.sizeOf9
  v9 := Tryz.zeroValue9
  t22 := Tryz.underlying22
  a22 := Tryz.isAgg22
  z22 := Tryz.sizeOf22
  v22 := Tryz.zeroValue22
  a24 := Tryz.isAgg9
  z24 := Tryz.sizeOf9
  t25 := Tryz.underlying92
  a25 := Tryz.isAgg92
  z25 := Tryz.sizeOf92
  v25 := Tryz.zeroValue92
  t39 := Tryz.underlying147
  a39 := Tryz.isAgg147
  z39 := Tryz.sizeOf147
  v39 := Tryz.zeroValue147
  t45 := Tryz.underlying178
  a45 := Tryz.isAgg178
  z45 := Tryz.sizeOf178
  v45 := Tryz.zeroValue178
  t46 := Tryz.underlying179
  a46 := Tryz.isAgg179
  z46 := Tryz.sizeOf179
  v46 := Tryz.zeroValue179
  t50 := Tryz.underlying54
  a50 := Tryz.isAgg54
  z50 := Tryz.sizeOf54
  v50 := Tryz.zeroValue54
  t53 := Tryz.underlying185
  a53 := Tryz.isAgg185
  z53 := Tryz.sizeOf185
  v53 := Tryz.zeroValue185
  t55 := Tryz.underlying187
  a55 := Tryz.isAgg187
  z55 := Tryz.sizeOf187
  v55 := Tryz.zeroValue187
  t66 := Tryz.underlying207
  a66 := Tryz.isAgg207
  z66 := Tryz.sizeOf207
  v66 := Tryz.zeroValue207
  t70 := Tryz.underlying211
  a70 := Tryz.isAgg211
  z70 := Tryz.sizeOf211
  v70 := Tryz.zeroValue211
  t76 := Tryz.underlying239
  a76 := Tryz.isAgg239
  z76 := Tryz.sizeOf239
  v76 := Tryz.zeroValue239
  t77 := Tryz.underlying240
  a77 := Tryz.isAgg240
  z77 := Tryz.sizeOf240
  v77 := Tryz.zeroValue240 }
end Go.Proofs.YtpdnipabaimofaaGreat

namespace Go.Proofs.YtpdnipabaimofaaGreat
open Go.RowKit Go.Shelf Go.Lib Go.Sort

instance : Inhabited Edg := ⟨⟨0, 0⟩⟩

theorem flat_listG (d : List Edg) : (flatK ec 2 d.toArray).toList = ev d := by
  apply List.ext_getElem?
  intro t
  by_cases ht : t < d.length * 2
  · have hq : t / 2 < d.length := by omega
    have h1 := flat_get ec 2 ec_len d (t / 2) (t % 2) d[t / 2] (List.getElem?_eq_getElem hq) (by omega)
    rw [show t / 2 * 2 + t % 2 = t by omega] at h1
    rw [show ev d = d.flatMap ec from rfl, h1, Array.getElem?_toList]
    have h2 : t % 2 < (ec d[t / 2]).length := by rw [ec_len]; omega
    simp [flatK, ht, hq, h2]
  · rw [List.getElem?_eq_none (by simp; omega), List.getElem?_eq_none (by rw [ev_len]; omega)]

theorem holdsK_blockG {w : World} {g n : Nat} {cur : Array Value} {e : TypeId} {d : List Edg} (hb : w.heap[g]? = some (.cells cur e (0, 0))) (hl : d.length = n) (ht : cur.toList.take (n * 2) = ev d) : HoldsK ec 2 w g 0 d.toArray := by
  intro j hj
  have hj' : j < n * 2 := by rw [size_flatK] at hj; simpa [hl] using hj
  refine ⟨?_, by simp [World.frozen?, hb]⟩
  have h1 : (cur.toList.take (n * 2))[j]? = (flatK ec 2 d.toArray).toList[j]? := by rw [ht, flat_listG]
  rw [List.getElem?_take_of_lt hj'] at h1
  simp only [World.cell?, hb, Nat.zero_add]
  simp only [Option.isSome_none, Bool.false_eq_true, if_false]
  rw [← Array.getElem?_toList, h1, Array.getElem?_toList, Array.getElem?_eq_getElem hj, getElem!_pos _ j hj]
  rfl

theorem heap_sortedKG {w : World} {g n : Nat} {os : Array Obj} {cur : Array Value} {e : TypeId} {fr : Nat × Nat} (d : Array Edg) (hb : w.heap[g]? = some (.cells cur e fr)) :
    (sortWorldK ec 2 w g 0 n d os).heap[g]? = some (.cells (putCells id 0 (flatK ec 2 d) cur) e fr) := by
  have hg : g < w.heap.size := (Array.getElem?_eq_some_iff.1 hb).1
  unfold sortWorldK putRowK
  rw [heap_grow_old _ _ (by simpa using hg)]
  simp [putRow, mapBlock, Sort.ahead, Array.getElem?_modify, hb, onCells]

theorem grownBy_sortedKG {w : World} {g n : Nat} {os : Array Obj} (d : Array Edg) : w.grownBy (sortWorldK ec 2 w g 0 n d os) (some g) := by
  unfold sortWorldK putRowK
  refine ⟨rfl, rfl, rfl, by simp, fun k hk hne => ?_⟩
  rw [heap_grow_old _ _ (by simpa using hk)]
  have : g ≠ k := fun e => hne (by rw [e])
  simp [putRow, mapBlock, Sort.ahead, Array.getElem?_modify, this]

theorem take_putCellsKG (cur : Array Value) (F : Array Value) (h : F.size ≤ cur.size) : (putCells id 0 F cur).toList.take F.size = F.toList := by
  apply List.ext_getElem?
  intro j
  by_cases hj : j < F.size
  · rw [List.getElem?_take_of_lt hj, Array.getElem?_toList, Array.getElem?_toList]
    simp [putCells, hj, show j < cur.size by omega]
  · rw [List.getElem?_take_eq_none (by omega), List.getElem?_eq_none (by simp; omega)]

theorem sortE_c {w : World} {base n c : Nat} {A : Option Addr} {d : List Edg} (ho : w.ownsRow base 48 2 (.slice A n c) n (ev d)) (hlim : n ≤ 1000000000) :
    Calls Tryz.prog 100 #[.slice A n c, .func (.func 70) #[] #[]] w fun e w' => e = .returned (.tuple #[]) ∧
      ∃ d', d'.Perm d ∧ d'.Pairwise (fun a b => ¬ lessE b a) ∧ w'.ownsRow base 48 2 (.slice A n c) n (ev d') ∧ w.grownBy w' (A.map (·.block)) := by
  have hl : d.length = n := by have := ho.1; rw [ev_len] at this; omega
  rcases Nat.eq_zero_or_pos n with rfl | hn
  · refine (AnyF.slices_SortFunc_none sortEdge A c _ w).mono ?_
    rintro e w' ⟨rfl, rfl⟩
    have : d = [] := List.eq_nil_of_length_eq_zero hl
    subst this
    exact ⟨rfl, [], List.Perm.refl _, List.Pairwise.nil, ho, only_refl _ _⟩
  · obtain ⟨h0, ⟨hv, hz⟩ | ⟨g, cap, cur, hv, hbase, hb, h1, h2, h3, h4⟩⟩ := id ho
    · omega
    injection hv with e1 e2 e3
    subst e1
    subst e3
    have hH : HoldsK ec 2 w g 0 d.toArray := holdsK_blockG hb hl h4
    have hg : g < w.heap.size := (Array.getElem?_eq_some_iff.1 hb).1
    have eg : ∀ args w, (callFunc 70 args).run Tryz.prog w = .ok (.enter 70 args) w := enters_of Tryz.func70 (by kernel_rfl) rfl
    have hcmp : CmpLays Tryz.prog 70 #[] ec 2 cmpE g 0 d.toArray.size w := fun _ _ _ _ x y => ordE_grow x y _
    have hcon := AnyQ.slices_SortFunc sortEdge 2 Tryz.isAgg48 Tryz.sizeOf48 ec (fun _ => rfl) ec_one cmpE swo_cmpE 70 #[] g 0 c d.toArray w eg hcmp hH hg (by simp [hl]; omega)
    rw [show d.toArray.size = n by simpa using hl] at hcon
    refine hcon.mono ?_
    rintro e w' ⟨rfl, d', m, os, hp, hs, rfl⟩
    obtain ⟨p1, p2, p3⟩ := hp
    have hsz : d'.size = n := by rw [p1]; simpa using hl
    refine ⟨rfl, d'.toList, ?_, ?_, ?_, grownBy_sortedKG _⟩
    · have e1 : d'.extract 0 n = d' := by rw [← hsz]; simp
      have e2 : d.toArray.extract 0 n = d.toArray := by rw [← hl]; simp
      rw [e1, e2] at p3
      simpa using p3
    · rw [List.pairwise_iff_getElem]
      intro i j hi hj hij
      have hi' : i < d'.size := by simpa using hi
      have hj' : j < d'.size := by simpa using hj
      have := hs i j (Nat.zero_le _) hij (by omega)
      rw [lt_cmpE] at this
      simp only [decide_eq_false_iff_not] at this
      rw [getElem!_pos d' i hi', getElem!_pos d' j hj'] at this
      simpa using this
    · have hF := flat_listG d'.toList
      rw [Array.toArray_toList] at hF
      have hFs : (flatK ec 2 d').size = n * 2 := by rw [size_flatK, hsz]
      refine ⟨by rw [ev_len]; simp [hsz], .inr ⟨g, c, _, rfl, hbase, heap_sortedKG d' hb, h1, h2, by simp [putCells, h3], ?_⟩⟩
      rw [← hFs, take_putCellsKG _ _ (by rw [hFs, h3]; exact Nat.mul_le_mul_right _ h1), hF]

theorem holds_blockS {w : World} {g n : Nat} {cur : Array Value} {e : TypeId} {d : List ByteArray} (hb : w.heap[g]? = some (.cells cur e (0, 0))) (hl : d.length = n) (ht : cur.toList.take (n * 1) = sv d) : Holds Value.string w g 0 d.toArray := by
  intro j hj
  have hj' : j < n := by simpa [hl] using hj
  refine ⟨?_, by simp [World.frozen?, hb]⟩
  have h1 : (cur.toList.take (n * 1))[j]? = (sv d)[j]? := by rw [ht]
  rw [List.getElem?_take_of_lt (by omega)] at h1
  simp only [World.cell?, hb, Nat.zero_add]
  simp only [Option.isSome_none, Bool.false_eq_true, if_false]
  rw [← Array.getElem?_toList, h1, sv, List.getElem?_map]
  have hjd : j < d.length := by omega
  rw [List.getElem?_eq_getElem hjd, getElem!_pos d.toArray j hj]
  rfl

theorem heap_sortedS {w : World} {g n : Nat} {os : Array Obj} {cur : Array Value} {e : TypeId} {fr : Nat × Nat} (d : Array ByteArray) (hb : w.heap[g]? = some (.cells cur e fr)) :
    (sortWorld Value.string w g 0 n d os).heap[g]? = some (.cells (putCells Value.string 0 d cur) e fr) := by
  have hg : g < w.heap.size := (Array.getElem?_eq_some_iff.1 hb).1
  unfold sortWorld
  rw [heap_grow_old _ _ (by simpa using hg)]
  simp [putRow, mapBlock, Sort.ahead, Array.getElem?_modify, hb, onCells]

theorem grownBy_sortedS {w : World} {g n : Nat} {os : Array Obj} (d : Array ByteArray) : w.grownBy (sortWorld Value.string w g 0 n d os) (some g) := by
  unfold sortWorld
  refine ⟨rfl, rfl, rfl, by simp, fun k hk hne => ?_⟩
  rw [heap_grow_old _ _ (by simpa using hk)]
  have : g ≠ k := fun e => hne (by rw [e])
  simp [putRow, mapBlock, Sort.ahead, Array.getElem?_modify, this]

theorem take_putCellsS (cur : Array Value) (d : Array ByteArray) (h : d.size ≤ cur.size) : (putCells Value.string 0 d cur).toList.take d.size = sv d.toList := by
  apply List.ext_getElem?
  intro j
  by_cases hj : j < d.size
  · rw [List.getElem?_take_of_lt hj, Array.getElem?_toList, sv, List.getElem?_map, Array.getElem?_toList]
    simp [putCells, hj, show j < cur.size by omega]
  · rw [List.getElem?_take_eq_none (by omega), List.getElem?_eq_none (by simp [sv]; omega)]

theorem sortS_c {w : World} {base n c : Nat} {A : Option Addr} {d : List ByteArray} (ho : w.ownsRow base 9 1 (.slice A n c) n (sv d)) (hlim : n ≤ 1000000000) :
    Calls Tryz.prog 103 #[.slice A n c, .func (.func 67) #[] #[]] w fun e w' => e = .returned (.tuple #[]) ∧
      ∃ d', d'.Perm d ∧ d'.Pairwise (fun a b => ¬ ltW b a) ∧ w'.ownsRow base 9 1 (.slice A n c) n (sv d') ∧ w.grownBy w' (A.map (·.block)) := by
  have hl : d.length = n := by have := ho.1; simpa [sv] using this
  rcases Nat.eq_zero_or_pos n with rfl | hn
  · refine (AnyF.slices_SortFunc_none { sortText with } A c _ w).mono ?_
    rintro e w' ⟨rfl, rfl⟩
    have : d = [] := List.eq_nil_of_length_eq_zero hl
    subst this
    exact ⟨rfl, [], List.Perm.refl _, List.Pairwise.nil, ho, only_refl _ _⟩
  · obtain ⟨h0, ⟨hv, hz⟩ | ⟨g, cap, cur, hv, hbase, hb, h1, h2, h3, h4⟩⟩ := id ho
    · omega
    injection hv with e1 e2 e3
    subst e1
    subst e3
    have hH : Holds Value.string w g 0 d.toArray := holds_blockS hb hl h4
    have hg : g < w.heap.size := (Array.getElem?_eq_some_iff.1 hb).1
    have eg : ∀ args w, (callFunc 67 args).run Tryz.prog w = .ok (.enter 67 args) w := enters_of Tryz.func67 (by kernel_rfl) rfl
    have hcmp : CmpLays1 Tryz.prog 67 #[] Value.string cmpW g 0 d.toArray.size w := fun _ _ _ _ x y => ordW_grow x y _
    have hcon := Any.slices_SortFunc sortText Value.string (fun _ => rfl) cmpW swo_cmpW 67 #[] g 0 c d.toArray w eg hcmp hH hg (by simp [hl]; omega)
    rw [show d.toArray.size = n by simpa using hl] at hcon
    refine hcon.mono ?_
    rintro e w' ⟨rfl, d', m, os, hp, hs, rfl⟩
    obtain ⟨p1, p2, p3⟩ := hp
    have hsz : d'.size = n := by rw [p1]; simpa using hl
    refine ⟨rfl, d'.toList, ?_, ?_, ?_, grownBy_sortedS _⟩
    · have e1 : d'.extract 0 n = d' := by rw [← hsz]; simp
      have e2 : d.toArray.extract 0 n = d.toArray := by rw [← hl]; simp
      rw [e1, e2] at p3
      simpa using p3
    · rw [List.pairwise_iff_getElem]
      intro i j hi hj hij
      have hi' : i < d'.size := by simpa using hi
      have hj' : j < d'.size := by simpa using hj
      have := hs i j (Nat.zero_le _) hij (by omega)
      rw [lt_cmpW] at this
      simp only [decide_eq_false_iff_not] at this
      rw [getElem!_pos d' i hi', getElem!_pos d' j hj'] at this
      simpa using this
    · refine ⟨by simp [sv, hsz], .inr ⟨g, c, _, rfl, hbase, heap_sortedS d' hb, h1, h2, by simp [putCells, h3], ?_⟩⟩
      rw [Nat.mul_one, ← hsz, take_putCellsS _ _ (by rw [hsz, h3]; omega)]
end Go.Proofs.YtpdnipabaimofaaGreat

namespace Go.Proofs.YtpdnipabaimofaaGreat
open Go.RowKit

theorem compactE_nil (c : Nat) (w : World) : Calls Tryz.prog 101 #[.slice none 0 c] w fun e w' => e = .returned (.slice none 0 c) ∧ w' = w := by
  go_enter Tryz.func101, Tryz.ntmps101
  go_wp2
  go_ret
  exact ⟨rfl, rfl⟩
theorem compactS_nil (c : Nat) (w : World) : Calls Tryz.prog 104 #[.slice none 0 c] w fun e w' => e = .returned (.slice none 0 c) ∧ w' = w := by
  go_enter Tryz.func104, Tryz.ntmps104
  go_wp2
  go_ret
  exact ⟨rfl, rfl⟩

theorem compactE_one (A : Option Addr) (c : Nat) (w : World) : Calls Tryz.prog 101 #[.slice A 1 c] w fun e w' => e = .returned (.slice A 1 c) ∧ w' = w := by
  go_enter Tryz.func101, Tryz.ntmps101
  go_wp2
  go_ret
  exact ⟨rfl, rfl⟩

set_option maxRecDepth 100000 in
set_option maxHeartbeats 1000000 in
theorem onceE_c (A : Option Addr) (n c : Nat) (l : List Edg) (w : World) (h : Reads w w.heap.size 2 A n (ev l)) (hn : n ≤ 1000000) :
    Calls Tryz.prog 74 #[.slice A n c, .agg #[.func (.func 70) #[] #[]]] w fun e w' => ∃ A' k c' l', e = .returned (.slice A' k c') ∧ Rises lessE l' ∧ (∀ x ∈ l', x ∈ l) ∧ (l'.length ≤ l.length ∧ (l.length = 1 → l' = l)) ∧ w'.ownsRow w.heap.size 48 2 (.slice A' k c') k (ev l') ∧ Below w.heap.size w w' := by
  have HO := Lib.hid (show OrdAt w 70 99 (w.alloc (.cells #[.func (.func 70) #[] #[]] 99)) from ⟨Array.getElem?_push_size, below_oneG _ _⟩)
  have HR := Lib.hid h
  clear h
  go_enter Tryz.func74, Tryz.ntmps74
  go_wp2_with (fail)
  refine (cloneE_c A n c l _ ((HR.out.below HO.out.bel).more HO.out.bel.size) hn).mono ?_
  rintro e w1 ⟨A1, c1, rfl, hown, hB1⟩
  have hO1 := HO.out.step hB1
  have q0 := hO1.cell
  have HO1 := Lib.hid hO1
  have hown := own_more (base := w.heap.size) hown (by simp)
  have HOW := Lib.hid hown
  clear hB1 hO1 HO hown
  go_wp2_with (fail)
  refine (sortE_c HOW.out (by omega)).mono ?_
  rintro e w2 ⟨rfl, l2, hperm, hsort, how2, hG2⟩
  have hB2 : Below w.heap.size w1 w2 := (Below.refl _ _).grown hG2 HO1.out.bel.size (fun g hg => by
    cases hA : A1 with
    | none => rw [hA] at hg; cases hg
    | some a => rw [hA] at hg; have := (own_lt HOW.out a hA).1; injection hg with hg; simp only at hg; omega)
  have HB2 := Lib.hid (HO1.out.bel.trans hB2)
  have HOW2 := Lib.hid how2
  have HP := Lib.hid hperm
  have HS := Lib.hid hsort
  have hbw : w.heap.size ≤ w2.heap.size := HB2.out.size
  clear hperm hsort how2 hG2 hB2 q0 HOW HO1
  go_wp2_with (fail)
  rcases A1 with _ | a
  · have h0 : n = 0 := by
      rcases Nat.eq_zero_or_pos n with h0 | h0
      · exact h0
      · obtain ⟨g, cap, hv, _⟩ := HOW2.out.form h0
        cases hv
    subst h0
    refine (compactE_nil c1 _).mono ?_
    rintro e w3 ⟨rfl, rfl⟩
    go_wp2_with (fail)
    go_ret
    refine ⟨none, 0, c1, [], rfl, trivial, fun x hx => by simp at hx, ⟨by simp, fun h1 => by
      have h2 := HR.out.1
      rw [ev_len] at h2
      omega⟩, ?_, HB2.out⟩
    have hl2 : l2 = [] := List.eq_nil_of_length_eq_zero (by have h := HOW2.out.1; rw [ev_len] at h; omega)
    have h := HOW2.out
    rw [hl2] at h
    exact h
  · obtain ⟨g, hgA⟩ : ∃ g, a = ⟨g, 0, none⟩ := by
      rcases HOW2.out.2 with ⟨hv, _⟩ | ⟨g, cap, cur, hv, _⟩
      · cases hv
      · injection hv with e1 e2 e3
        injection e1 with e1
        exact ⟨g, e1⟩
    subst hgA
    by_cases hn1 : n = 1
    · subst hn1
      have hl1 : l.length = 1 := by have h2 := HR.out.1; rw [ev_len] at h2; omega
      have h12 : l2 = l := by
        obtain ⟨x, rfl⟩ := List.length_eq_one_iff.1 hl1
        exact List.perm_singleton.1 HP.out
      have H12 := Lib.hid h12
      clear hl1 h12
      refine (compactE_one _ c1 _).mono ?_
      rintro e w3 ⟨rfl, rfl⟩
      go_wp2_with (fail)
      go_ret
      refine ⟨_, 1, c1, l, rfl, ?_, fun x hx => hx, ⟨Nat.le_refl _, fun _ => rfl⟩, by rw [← H12.out]; exact HOW2.out, HB2.out⟩
      obtain ⟨x, rfl⟩ := List.length_eq_one_iff.1 (show l.length = 1 by have h2 := HR.out.1; rw [ev_len] at h2; omega)
      trivial
    refine (compactE_c g n c1 w.heap.size l2 _ HOW2.out HS.out hn).mono ?_
    rintro e w3 ⟨k, l3, rfl, h1, h2, h3, h4, hG3⟩
    have hB3 := Lib.hid (HB2.out.grown hG3 hbw (fun g' hg => by have := (own_lt HOW2.out _ rfl).1; injection hg with hg; simp only at this; omega))
    have H4 := Lib.hid h4
    have H1 := Lib.hid h1
    have H2 : Hid (∀ x ∈ l3, x ∈ l) := fun x hx => (HP.out.mem_iff).1 (h2 x hx)
    have H3 : Hid (l3.length ≤ l.length ∧ (l.length = 1 → l3 = l)) := ⟨by rw [← HP.out.length_eq]; exact h3, fun h1 => absurd (by have h2 := HR.out.1; rw [ev_len] at h2; omega) hn1⟩
    clear h1 h2 h3 h4 hG3
    go_wp2_with (fail)
    go_ret
    exact ⟨_, k, c1, l3, rfl, H1.out, H2.out, H3.out, H4.out, hB3.out⟩

set_option maxRecDepth 100000 in
set_option maxHeartbeats 1000000 in
theorem onceS_c (A : Option Addr) (n c : Nat) (l : List ByteArray) (w : World) (h : Reads w w.heap.size 1 A n (sv l)) (hn : n ≤ 1000000) :
    Calls Tryz.prog 75 #[.slice A n c, .agg #[.func (.func 67) #[] #[]]] w fun e w' => ∃ A' k c' l', e = .returned (.slice A' k c') ∧ Rises ltW l' ∧ (∀ x ∈ l', x ∈ l) ∧ l'.length ≤ l.length ∧ w'.ownsRow w.heap.size 9 1 (.slice A' k c') k (sv l') ∧ Below w.heap.size w w' := by
  have HO := Lib.hid (show OrdAt w 67 94 (w.alloc (.cells #[.func (.func 67) #[] #[]] 94)) from ⟨Array.getElem?_push_size, below_oneG _ _⟩)
  have HR := Lib.hid h
  clear h
  go_enter Tryz.func75, Tryz.ntmps75
  go_wp2_with (fail)
  refine (cloneS_c A n c l _ ((HR.out.below HO.out.bel).more HO.out.bel.size) hn).mono ?_
  rintro e w1 ⟨A1, c1, rfl, hown, hB1⟩
  have hO1 := HO.out.step hB1
  have q0 := hO1.cell
  have HO1 := Lib.hid hO1
  have hown := own_more (base := w.heap.size) hown (by simp)
  have HOW := Lib.hid hown
  clear hB1 hO1 HO hown
  go_wp2_with (fail)
  refine (sortS_c HOW.out (by omega)).mono ?_
  rintro e w2 ⟨rfl, l2, hperm, hsort, how2, hG2⟩
  have hB2 : Below w.heap.size w1 w2 := (Below.refl _ _).grown hG2 HO1.out.bel.size (fun g hg => by
    cases hA : A1 with
    | none => rw [hA] at hg; cases hg
    | some a => rw [hA] at hg; have := (own_lt HOW.out a hA).1; injection hg with hg; simp only at hg; omega)
  have HB2 := Lib.hid (HO1.out.bel.trans hB2)
  have HOW2 := Lib.hid how2
  have HP := Lib.hid hperm
  have HS := Lib.hid hsort
  have hbw : w.heap.size ≤ w2.heap.size := HB2.out.size
  clear hperm hsort how2 hG2 hB2 q0 HOW HO1
  go_wp2_with (fail)
  rcases A1 with _ | a
  · have h0 : n = 0 := by
      rcases Nat.eq_zero_or_pos n with h0 | h0
      · exact h0
      · obtain ⟨g, cap, hv, _⟩ := HOW2.out.form h0
        cases hv
    subst h0
    refine (compactS_nil c1 _).mono ?_
    rintro e w3 ⟨rfl, rfl⟩
    go_wp2_with (fail)
    go_ret
    refine ⟨none, 0, c1, [], rfl, trivial, fun x hx => by simp at hx, by simp, ?_, HB2.out⟩
    have hl2 : l2 = [] := List.eq_nil_of_length_eq_zero (by have h := HOW2.out.1; simpa [sv] using h)
    have h := HOW2.out
    rw [hl2] at h
    exact h
  · obtain ⟨g, hgA⟩ : ∃ g, a = ⟨g, 0, none⟩ := by
      rcases HOW2.out.2 with ⟨hv, _⟩ | ⟨g, cap, cur, hv, _⟩
      · cases hv
      · injection hv with e1 e2 e3
        injection e1 with e1
        exact ⟨g, e1⟩
    subst hgA
    refine (compactS_c g n c1 w.heap.size l2 _ HOW2.out HS.out hn).mono ?_
    rintro e w3 ⟨k, l3, rfl, h1, h2, h3, h4, hG3⟩
    have hB3 := Lib.hid (HB2.out.grown hG3 hbw (fun g' hg => by have := (own_lt HOW2.out _ rfl).1; injection hg with hg; simp only at this; omega))
    have H4 := Lib.hid h4
    have H1 := Lib.hid h1
    have H2 : Hid (∀ x ∈ l3, x ∈ l) := fun x hx => (HP.out.mem_iff).1 (h2 x hx)
    have H3 : Hid (l3.length ≤ l.length) := by show _ ≤ _; rw [← HP.out.length_eq]; exact h3
    clear h1 h2 h3 h4 hG3
    go_wp2_with (fail)
    go_ret
    exact ⟨_, k, c1, l3, rfl, H1.out, H2.out, H3.out, H4.out, hB3.out⟩
end Go.Proofs.YtpdnipabaimofaaGreat

namespace Go.Proofs.YtpdnipabaimofaaGreat
open Go.RowKit

/-- A row lies apart from a block of another type. -/
theorem own_box {w : World} {base nb n c sz : Nat} {e T : TypeId} {A : Option Addr} {xs : List Value} {cs : Array Value} {fz : Nat × Nat} (h : w.ownsRow base e sz (.slice A n c) n xs) (hb : w.heap[nb]? = some (.cells cs T fz)) (hne : e ≠ T) : ∀ a, A = some a → some a.block ≠ some nb := by
  intro a ha hab
  rcases h.2 with ⟨hv, _⟩ | ⟨g, cap, cur, hv, _, hg, _⟩
  · cases hv; cases ha
  · cases hv
    cases ha
    injection hab with hab
    simp only at hab
    subst hab
    rw [hg] at hb
    injection hb with hb
    injection hb with _ ht _
    exact hne ht
theorem own_setBox {w w' : World} {base nb n c sz : Nat} {e T : TypeId} {A : Option Addr} {xs : List Value} {cs : Array Value} {fz : Nat × Nat} (h : w.ownsRow base e sz (.slice A n c) n xs) (hb : w.heap[nb]? = some (.cells cs T fz)) (hne : e ≠ T) (hg : w.grownBy w' (some nb)) :
    w'.ownsRow base e sz (.slice A n c) n xs := own_only h hg (own_box h hb hne)
theorem rows_setBox {w w' : World} {base nb sz : Nat} {e T : TypeId} {vs : List Value} {rs : List (List Value)} {cs : Array Value} {fz : Nat × Nat} (h : RowsOwn w base e sz vs rs) (hb : w.heap[nb]? = some (.cells cs T fz)) (hne : e ≠ T) (hg : w.grownBy w' (some nb)) :
    RowsOwn w' base e sz vs rs := h.keep_ fun _ _ _ _ _ ho => own_setBox ho hb hne hg
theorem box_pushed {w w' : World} {base nb n c sz : Nat} {e T : TypeId} {A A' : Option Addr} {xs : List Value} {cs : Array Value} {fz : Nat × Nat} (p : Pushed w w' A A') (h : w.ownsRow base e sz (.slice A n c) n xs) (hb : w.heap[nb]? = some (.cells cs T fz)) (hne : e ≠ T) : w'.heap[nb]? = some (.cells cs T fz) := by
  refine (p.grown.block nb (Array.getElem?_eq_some_iff.1 hb).1 ?_).trans hb
  intro h2
  cases hA : A with
  | none => rw [hA] at h2; cases h2
  | some a =>
    rw [hA] at h2
    exact own_box h hb hne a hA (by simpa using h2.symm)

/-- What Normal has made so far: the argument's box, the result's, and one that holds edges and words. -/
structure NSt (w wr : World) (nb : Nat) (g : Gr) (A1 : Option Addr) (n1 c1 : Nat) (A2 : Option Addr) (n2 c2 : Nat) (vs : List Value) (es : List Edg) (ls : List (List ByteArray)) (B1 : Option Addr) (k1 d1 : Nat) (B2 : Option Addr) (d2 : Nat) (us : List Value) : Prop where
  lt : w.heap.size + 1 + 1 ≤ nb
  x : BoxedG w w.heap.size g A1 n1 c1 A2 n2 c2 vs wr
  z : GAt wr (w.heap.size + 1) 0 none 0 0 none 0 0
  o : GAt wr nb g.n B1 k1 d1 B2 ls.length d2
  es : wr.ownsRow (w.heap.size + 1 + 1) 48 2 (.slice B1 k1 d1) k1 (ev es)
  ws : wr.ownsRow (w.heap.size + 1 + 1) 22 1 (.slice B2 ls.length d2) ls.length us
  rs : RowsOwn wr (w.heap.size + 1 + 1) 9 1 us (wv ls)
section
variable {w wr w' : World} {nb : Nat} {g : Gr} {A1 A2 B1 B2 : Option Addr} {n1 c1 n2 c2 k1 d1 d2 : Nat} {vs us : List Value} {es : List Edg} {ls : List (List ByteArray)}
theorem NSt.size (h : NSt w wr nb g A1 n1 c1 A2 n2 c2 vs es ls B1 k1 d1 B2 d2 us) : w.heap.size + 1 + 1 ≤ wr.heap.size := by have := h.o.lt; have := h.lt; omega
theorem NSt.step (h : NSt w wr nb g A1 n1 c1 A2 n2 c2 vs es ls B1 k1 d1 B2 d2 us) (hB : Below wr.heap.size wr w') : NSt w w' nb g A1 n1 c1 A2 n2 c2 vs es ls B1 k1 d1 B2 d2 us :=
  ⟨h.lt, h.x.step hB, h.z.below hB h.z.lt, h.o.below hB h.o.lt, own_below h.es hB, own_below h.ws hB, h.rs.below hB⟩
theorem NSt.drew (h : NSt w wr nb g A1 n1 c1 A2 n2 c2 vs es ls B1 k1 d1 B2 d2 us) : NSt w wr.drew nb g A1 n1 c1 A2 n2 c2 vs es ls B1 k1 d1 B2 d2 us := h.step (Below.refl _ _).drew
theorem NSt.row {A' A7 : Option Addr} {c' c7 n : Nat} {x : List ByteArray} (h : NSt w wr nb g A1 n1 c1 A2 n2 c2 vs es ls B1 k1 d1 B2 d2 us) (ho : w'.ownsRow (w.heap.size + 1 + 1) 22 1 (.slice A' (ls.length + 1) c') (ls.length + 1) (us ++ [.slice A7 n c7])) (q : Pushed wr w' B2 A')
    (h7 : wr.ownsRow (w.heap.size + 1 + 1) 9 1 (.slice A7 n c7) n (sv x)) (hap : ApartAll us A7) :
    NSt w (w'.setCell ⟨nb, 2, none⟩ (.slice A' (ls.length + 1) c')) nb g A1 n1 c1 A2 n2 c2 vs es (ls ++ [x]) B1 k1 d1 A' c' (us ++ [.slice A7 n c7]) := by
  have hlt := h.lt
  have hb := q.below h.ws (Below.refl (w.heap.size + 1 + 1) wr) (Nat.le_refl _) h.size
  have hs := only_setCellS (only_refl w' (some nb)) 2 (.slice A' (ls.length + 1) c')
  have hb2 := hb.setCell (p := ⟨nb, 2, none⟩) hlt (.slice A' (ls.length + 1) c')
  have hapw : ApartAll us B2 := h.rs.apart_ne h.ws (by decide)
  have hape : Apart B1 B2 := own_ne h.es h.ws (by decide)
  have hap7 : Apart A7 B2 := own_ne h7 h.ws (by decide)
  have e : (ls ++ [x]).length = ls.length + 1 := by rw [List.length_append]; rfl
  have ho8 : GAt w' nb g.n B1 k1 d1 B2 ls.length d2 := box_pushed q h.ws h.o (by decide)
  refine ⟨hlt, h.x.stepB hb2 (by omega), h.z.below hb2 (by omega), ?_, own_setBox (q.keep h.es hape) ho8 (by decide) hs, ?_, ?_⟩
  · rw [e]
    exact ho8.set2
  · rw [e]
    exact own_setBox ho ho8 (by decide) hs
  · have e2 : wv (ls ++ [x]) = wv ls ++ [sv x] := by
      rw [wv_append]
      rfl
    rw [e2]
    exact rows_setBox ((h.rs.kept q hapw).snoc (q.keep h7 hap7) hap) ho8 (by decide) hs
end

section
variable {w w6 : World} {nb base' : Nat} {g : Gr} {A1 A2 B1 : Option Addr} {n1 c1 n2 c2 k1 d1 : Nat} {vs : List Value} {es : List Edg}
theorem nst_put (hx : BoxedG w w.heap.size g A1 n1 c1 A2 n2 c2 vs w6) (hz : GAt w6 (w.heap.size + 1) 0 none 0 0 none 0 0) (ho : GAt w6 nb 0 none 0 0 none 0 0) (hlt : w.heap.size + 1 + 1 ≤ nb) (he : w6.ownsRow base' 48 2 (.slice B1 k1 d1) k1 (ev es)) (hb : w.heap.size + 1 + 1 ≤ base') :
    NSt w (putG w6 nb g.n B1 k1 d1 none 0 0) nb g A1 n1 c1 A2 n2 c2 vs es [] B1 k1 d1 none 0 [] := by
  have hB := putG_below (Below.refl (w.heap.size + 1 + 1) w6) hlt g.n B1 k1 d1 none 0 0
  exact ⟨hlt, hx.stepB hB (by omega), hz.below hB (by omega), putG_at ho g.n B1 k1 d1 none 0 0, own_setBox (own_more he hb) ho (by decide) (putG_grown w6 nb g.n B1 k1 d1 none 0 0), own_nil, rowsOwn_nil _ _ _ _⟩
theorem nst_new (hx : BoxedG w w.heap.size g A1 n1 c1 A2 n2 c2 vs w6) (hz : GAt w6 (w.heap.size + 1) 0 none 0 0 none 0 0) (he : w6.ownsRow base' 48 2 (.slice B1 k1 d1) k1 (ev es)) (hb : w.heap.size + 1 + 1 ≤ base') :
    NSt w (w6.alloc (.cells #[.int .i64 g.n, .slice B1 k1 d1, .slice none 0 0] 52)) w6.heap.size g A1 n1 c1 A2 n2 c2 vs es [] B1 k1 d1 none 0 [] := by
  have hB := below_oneG w6 (.cells #[.int .i64 g.n, .slice B1 k1 d1, .slice none 0 0] 52)
  exact ⟨hz.lt, hx.step hB, hz.below hB hz.lt, GAt.new _ _ _ _ _ _ _ _, own_below (own_more he hb) hB, own_nil, rowsOwn_nil _ _ _ _⟩
end

/-- What a call that makes a graph normal gives. -/
def NDone (w w' : World) (g : Gr) (e : Ending) : Prop :=
  if checkG g then ∃ g' A1 n1 c1 A2 n2 c2 us, e = .returned (.tuple #[.agg #[.int .i64 g'.n, .slice A1 n1 c1, .slice A2 n2 c2], .int .i64 0]) ∧ isG g' ∧ (g'.n = g.n ∧ (g.es.length = 1 → g'.es = g.es)) ∧ GrIn w' w'.heap.size g' A1 n1 A2 n2 us ∧ Below w.heap.size w w'
  else e = .returned (.tuple #[.agg #[.int .i64 0, .slice none 0 0, .slice none 0 0], .int .i64 20]) ∧ Below w.heap.size w w'
theorem normal_no {a : Act} {w W : World} {g : Gr} (ht : a.tmps.getD 2 undef = .pointer (some ⟨w.heap.size + 1, 0, none⟩)) (he : a.tmps.getD 3 undef = .int .i64 20) (hd : a.defers = []) (hz : GAt W (w.heap.size + 1) 0 none 0 0 none 0 0) (hB : Below w.heap.size w W) (h : ¬ checkG g) :
    bodyPost Tryz.prog Tryz.f39 (fun e w' => NDone w w' g e) Exit.ret a W := by
  obtain ⟨c0, c1, c2⟩ := hz.cells
  refine bodyPost_ret (v := .tuple #[.agg #[.int .i64 0, .slice none 0 0, .slice none 0 0], .int .i64 20]) ?_ hd ?_
  · rw [Array.getD_eq_getD_getElem?] at ht he
    simp [results, Tryz.results39, ht, he, c0, c1, c2, go_sem]
  · unfold NDone
    rw [if_neg h]
    exact ⟨rfl, hB⟩
theorem normal_yes {a : Act} {w W : World} {g g' : Gr} {A1 A2 : Option Addr} {n1 c1 n2 c2 : Nat} {us : List Value} (ht : a.tmps.getD 2 undef = .pointer (some ⟨w.heap.size + 1, 0, none⟩)) (he : a.tmps.getD 3 undef = .int .i64 0) (hd : a.defers = [])
    (hz : GAt W (w.heap.size + 1) g'.n A1 n1 c1 A2 n2 c2) (hB : Below w.heap.size w W) (hG : GrIn W W.heap.size g' A1 n1 A2 n2 us) (h : checkG g) (hg : isG g') (hs : g'.n = g.n ∧ (g.es.length = 1 → g'.es = g.es)) :
    bodyPost Tryz.prog Tryz.f39 (fun e w' => NDone w w' g e) Exit.ret a W := by
  obtain ⟨c0, c1', c2'⟩ := hz.cells
  refine bodyPost_ret (v := .tuple #[.agg #[.int .i64 g'.n, .slice A1 n1 c1, .slice A2 n2 c2], .int .i64 0]) ?_ hd ?_
  · rw [Array.getD_eq_getD_getElem?] at ht he
    simp [results, Tryz.results39, ht, he, c0, c1', c2', go_sem]
  · unfold NDone
    rw [if_pos h]
    exact ⟨g', A1, n1, c1, A2, n2, c2, us, rfl, hg, hs, hG, hB⟩
/-- A row of words made normal. -/
def goodRow (l : List ByteArray) : Prop := wordsOk l ∧ riseW l
theorem once_row {l l' : List ByteArray} (h : wordsOk l) (h1 : Rises ltW l') (h2 : ∀ x ∈ l', x ∈ l) (h3 : l'.length ≤ l.length) : goodRow l' := ⟨⟨Nat.le_trans h3 h.1, fun x hx => h.2 x (h2 x hx)⟩, h1⟩
theorem normal_is {g : Gr} (h : checkG g) {es : List Edg} {ls : List (List ByteArray)} (h1 : Rises lessE es) (h2 : ∀ x ∈ es, x ∈ g.es) (h3 : es.length ≤ g.es.length) (h4 : ls.length = g.ws.length) (h5 : ∀ d ∈ ls, goodRow d) : isG ⟨g.n, es, ls⟩ :=
  ⟨⟨h.1, Nat.le_trans h3 h.2.1, by show (ls.length : Int) = g.n; rw [h4]; exact h.2.2.1, fun e he => h.2.2.2.1 e (h2 e he), fun l hl => (h5 l hl).1⟩, h1, fun l hl => (h5 l hl).2⟩
end Go.Proofs.YtpdnipabaimofaaGreat

namespace Go.Proofs.YtpdnipabaimofaaGreat
open Go.RowKit

set_option maxRecDepth 100000 in
set_option maxHeartbeats 4000000 in
theorem normal_c (g : Gr) (A1 A2 : Option Addr) (n1 n2 c1 c2 : Nat) (vs : List Value) (w : World) (h : GrIn w w.heap.size g A1 n1 A2 n2 vs) (hb : Hid (sized g)) :
    Calls Tryz.prog 39 #[.agg #[.int .i64 g.n, .slice A1 n1 c1, .slice A2 n2 c2]] w fun e w' => NDone w w' g e := by
  have L1 := Lib.hid h.len1
  have L2 := Lib.hid h.len2
  have hx := (boxed_new h c1 c2).step (below_oneG _ (.cells #[.int .i64 0, .slice none 0 0, .slice none 0 0] 52))
  have hz := GAt.new (w.alloc (.cells #[.int .i64 g.n, .slice A1 n1 c1, .slice A2 n2 c2] 52)) 0 none 0 0 none 0 0
  rw [World.size_alloc] at hz
  have HX := Lib.hid hx
  have HZ := Lib.hid hz
  clear hx hz h
  go_enter Tryz.func39, Tryz.ntmps39
  go_wp2_with (fail)
  refine (check_cG g A1 A2 n1 n2 c1 c2 vs _ HX.out.in_ hb).mono ?_
  rintro e w1 ⟨rfl, hB1⟩
  have hx1 := HX.out.step hB1
  have hz1 := HZ.out.below hB1 HZ.out.lt
  have HX1 := Lib.hid hx1
  have HZ1 := Lib.hid hz1
  clear hB1 HX HZ
  by_cases hc : checkG g
  rotate_left
  · rw [decide_eq_false hc]
    have HC := Lib.hid hc
    obtain ⟨e0, e1, e2⟩ := hz1.cells
    have f0 := hz1.frozen 0
    have f1 := hz1.frozen 1
    have f2 := hz1.frozen 2
    clear hc hx1 hz1
    go_wp2_with (fail)
    refine (show bodyPost _ _ _ Exit.ret _ (putG w1 (w.heap.size + 1) 0 none 0 0 none 0 0) from ?_)
    exact normal_no rfl rfl rfl (putG_at HZ1.out 0 none 0 0 none 0 0) (putG_below HX1.out.bel (Nat.le_succ _) 0 none 0 0 none 0 0) HC.out
  rw [decide_eq_true hc]
  have HC := Lib.hid hc
  have hn1 : n1 ≤ 2000 := by have h1 := hc.2.1; have h2 := L1.out; omega
  have hn2 : n2 ≤ 200 := by have h1 := hc.2.2.1; have h3 := hc.1.2; have h2 := L2.out; omega
  clear hc
  obtain ⟨q0, q1, q2⟩ := hx1.box.cells
  clear hx1 hz1
  go_wp2_with (fail)
  have hz1 := HZ1.out
  have hs1 : w.heap.size + 1 + 1 ≤ w1.heap.size := hz1.lt
  have hx1a := HX1.out.step (below_oneG w1 (.cells #[.int .i64 0, .slice none 0 0, .slice none 0 0] 52))
  have hz1a := hz1.below (below_oneG w1 (.cells #[.int .i64 0, .slice none 0 0, .slice none 0 0] 52)) hz1.lt
  have hn1a := GAt.new w1 0 none 0 0 none 0 0
  obtain ⟨r0, r1, r2⟩ := hx1a.box.cells
  have HX1A := Lib.hid hx1a
  have HZ1A := Lib.hid hz1a
  have HN1A := Lib.hid hn1a
  clear hx1a hz1a hn1a hz1
  refine Code.wp_mono (Q := fun ex a w9 => match ex with | Exit.normal => ∃ nb B1 k1 d1 l1 u11 u12 u13 u14 u15 u16 u17, a = ({ tmps := #[.agg #[.int .i64 g.n, .slice A1 n1 c1, .slice A2 n2 c2], .pointer (some ⟨w.heap.size, 0, none⟩), .pointer (some ⟨w.heap.size + 1, 0, none⟩), .int .i64 0, .pointer (some ⟨nb, 0, none⟩), undef, undef,
      .agg #[.int .i64 g.n, .slice A1 n1 c1, .slice A2 n2 c2], .bool true, .bool false, undef, u11, u12, u13, u14, u15, u16, u17, undef, undef, undef, undef, undef, undef, undef, undef, undef, undef, undef, undef, undef, undef, undef, undef, undef], defers := [] } : Act) ∧ Rises lessE l1 ∧ (∀ x ∈ l1, x ∈ g.es) ∧ (l1.length ≤ g.es.length ∧ (g.es.length = 1 → l1 = g.es)) ∧ NSt w w9 nb g A1 n1 c1 A2 n2 c2 vs l1 [] B1 k1 d1 none 0 [] | _ => False) ?mono ?reg
  case reg =>
    go_region_law (first
      | (go_simp; go_at_call 36; refine (edges_c _).mono ?_; rintro e w5 ⟨rfl, hB5⟩
         have hx5 : BoxedG w w.heap.size g A1 n1 c1 A2 n2 c2 vs w5 := by first | exact HX1.out.drew.step hB5 | exact HX1A.out.drew.step hB5
         have hz5 : GAt w5 (w.heap.size + 1) 0 none 0 0 none 0 0 := by first | exact HZ1.out.drew.below hB5 HZ1.out.lt | exact HZ1A.out.drew.below hB5 HZ1A.out.lt
         have hs5 : w1.heap.size ≤ w5.heap.size := by have := hB5.size; first | exact this | (simp at this; omega)
         obtain ⟨a0, a1, a2⟩ := hx5.box.cells
         have hx5a := hx5.step (below_oneG w5 (.cells #[.int .i64 0, .slice none 0 0, .slice none 0 0] 52))
         have hz5a := hz5.below (below_oneG w5 (.cells #[.int .i64 0, .slice none 0 0, .slice none 0 0] 52)) hz5.lt
         have hn5a := GAt.new w5 0 none 0 0 none 0 0
         obtain ⟨b0, b1, b2⟩ := hx5a.box.cells
         try (have hn5 : GAt w5 w1.heap.size 0 none 0 0 none 0 0 := HN1A.out.drew.below hB5 HN1A.out.lt))
      | (go_simp; go_at_call 74; refine (onceE_c A1 n1 c1 g.es _ (by first | exact hx5.in_.es | exact hx5a.in_.es) (by omega)).mono ?_; rintro e w6 ⟨B1, k1, d1, l1, rfl, p1, p2, p3, ho6, hB6⟩
         have hx6 : BoxedG w w.heap.size g A1 n1 c1 A2 n2 c2 vs w6 := by first | exact hx5.step hB6 | exact hx5a.step hB6
         have hz6 : GAt w6 (w.heap.size + 1) 0 none 0 0 none 0 0 := by first | exact hz5.below hB6 hz5.lt | exact hz5a.below hB6 hz5a.lt
         obtain ⟨a3, a4, a5⟩ := hx6.box.cells
         have hx6a := hx6.step (below_oneG w6 (.cells #[.int .i64 0, .slice none 0 0, .slice none 0 0] 52))
         obtain ⟨b3, b4, b5⟩ := hx6a.box.cells
         try (have hn6 : GAt w6 w1.heap.size 0 none 0 0 none 0 0 := hn5.below hB6 hn5.lt
              obtain ⟨x0, x1, x2⟩ := hn6.cells
              have y0 := hn6.frozen 0
              have y1 := hn6.frozen 1
              have y2 := hn6.frozen 2)
         try (have hn6 : GAt w6 w5.heap.size 0 none 0 0 none 0 0 := hn5a.below hB6 hn5a.lt
              obtain ⟨x0, x1, x2⟩ := hn6.cells
              have y0 := hn6.frozen 0
              have y1 := hn6.frozen 1
              have y2 := hn6.frozen 2)))
    all_goals (first
      | exact ⟨_, B1, k1, d1, l1, _, _, _, _, _, _, _, rfl, p1, p2, p3, nst_new hx6 hz6 ho6 (by first | omega | (rw [World.size_alloc]; omega))⟩
      | exact ⟨_, B1, k1, d1, l1, _, _, _, _, _, _, _, rfl, p1, p2, p3, nst_put hx6 hz6 hn6 (by omega) ho6 (by first | omega | (rw [World.size_alloc]; omega))⟩)
  case mono =>
    intro ex a w9 hq
    cases ex
    case normal =>
      obtain ⟨nb, B1, k1, d1, l1, u11, u12, u13, u14, u15, u16, u17, rfl, p1, p2, p3', hN⟩ := hq
      have P3 := Lib.hid p3'.2
      have p3 := p3'.1
      clear p3'
      have HN := Lib.hid hN
      obtain ⟨t0, t1, t2⟩ := hN.x.box.cells
      clear hN
      go_wp2_with (fail)
      go_loopw [21] (fun i wr => ∃ (j : Nat) (B2 : Option Addr) (d2 : Nat) (us : List Value) (ls : List (List ByteArray)), j ≤ n2 ∧ i = .int .i64 j ∧ ls.length = j ∧ (∀ d ∈ ls, goodRow d) ∧ NSt w wr nb g A1 n1 c1 A2 n2 c2 vs l1 ls B1 k1 d1 B2 d2 us) (fun i _ => n2 - (intOf i).toNat)
      case atStart => exact ⟨0, none, 0, [], [], Nat.zero_le _, rfl, rfl, fun d hd => by simp at hd, HN.out⟩
      case round =>
        clear HN t0 t1 t2 r0 r1 r2 q0 q1 q2 HX1 HZ1 HX1A HZ1A HN1A hs1
        obtain ⟨j, B2, d2, us, ls, hj, rfl, rfl, hgood, hN⟩ := hrel
        have HG := Lib.hid hgood
        have HN := Lib.hid hN
        by_cases hjn : ls.length < n2
        · obtain ⟨A, n, c, l, hv, hl⟩ := hN.x.in_.row_is hjn
          obtain ⟨b2, o2, hA2, hcell, hnm, hrd⟩ := hN.x.in_.row_of hv.out hl.out
          subst hA2
          have hw : wordsOk l := HC.out.2.2.2.2 l (List.mem_of_getElem? hl.out)
          have hnl : l.length = n := hrd.str_len
          have hnn : n ≤ 1000000 := by have := hw.1; omega
          have HW := Lib.hid hw
          obtain ⟨e0, e1, e2⟩ := hN.o.cells
          have f1 : (0 : Int) ≤ (ls.length : Int) := by omega
          have f2 : (ls.length : Int) < (n2 : Int) := by omega
          clear hrd hw hN hgood
          go_wp2_with (fail)
          go_region_law (first
            | (go_simp; go_at_call 33; refine (words_c _).mono ?_; rintro e w5 ⟨rfl, hB5⟩
               have hN5 := HN.out.drew.step hB5
               obtain ⟨y0, y1, y2⟩ := hN5.o.cells
               have hrd5 := (hN5.x.in_.row_of hv.out hl.out).choose_spec.choose_spec.2.2.2)
            | (go_simp; go_at_call 75; refine (onceS_c A n c l _ hrd5 hnn).mono ?_; rintro e w6 ⟨A7, k7, c7, l7, rfl, p4, p5, p6, ho7, hB6⟩
               have hN6 := hN5.step hB6
               obtain ⟨x0, x1, x2⟩ := hN6.o.cells
               have hws6 := hN6.ws
               have hsz6 := hN6.size
               have hN7 := hN6.step (below_oneG w6 (.cells #[.slice A7 k7 c7] 22))
               obtain ⟨v0, v1, v2⟩ := hN7.o.cells)
            | (refine step_push elRows rfl (.tmp 26) (.tmp 30) rfl hws6 rfl _ rfl rfl (one_slice _ _ _) (by unfold maxLen; omega) (by omega) hsz6 ?_; intro A8 c8 w8 ho8 p8
               have hg8 : GAt w8 nb g.n B1 k1 d1 B2 ls.length d2 := box_pushed p8 hws6 hN6.o (by decide)
               obtain ⟨z0, z1, z2⟩ := hg8.cells
               have fz2 := hg8.frozen 2))
          all_goals
            have hN9 := Lib.hid (hN6.row ho8 p8 (own_more ho7 hN5.size) (hN5.rs.apart_base ho7 (Nat.le_refl _)))
            have hG9 : Hid (goodRow l7) := once_row HW.out p4 p5 p6
            clear ho7 ho8 p8 hg8 z0 z1 z2 fz2 hN7 v0 v1 v2 hN6 x0 x1 x2 hws6 hrd5 hN5 y0 y1 y2 e0 e1 e2 hcell
            go_wp2_with (fail)
            go_roundw
            case rel =>
              refine ⟨ls.length + 1, A8, c8, _, ls ++ [l7], by omega, by go_num, by simp, ?_, hN9.out⟩
              intro d hd
              rcases List.mem_append.1 hd with hd | hd
              · exact HG.out d hd
              · rw [List.mem_singleton.1 hd]; exact hG9.out
            case measure => simp [intOf]; omega
        · have hn2e : n2 = ls.length := by omega
          obtain ⟨e0, e1, e2⟩ := hN.o.cells
          obtain ⟨z0, z1, z2⟩ := hN.z.cells
          have fz0 := hN.z.frozen 0
          have fz1 := hN.z.frozen 1
          have fz2 := hN.z.frozen 2
          clear hN hgood
          have HB : Hid (Below w.heap.size w (putG wr (w.heap.size + 1) g.n B1 k1 d1 B2 ls.length d2)) := putG_below HN.out.x.bel (Nat.le_succ _) g.n B1 k1 d1 B2 ls.length d2
          have hr := fun {A : Option Addr} {n c : Nat} {e : TypeId} {sz : Nat} {xs : List Value} {bb : Nat} (h : wr.ownsRow bb e sz (.slice A n c) n xs) (hne : e ≠ 52) => own_setBox h HN.out.z hne (putG_grown wr (w.heap.size + 1) g.n B1 k1 d1 B2 ls.length d2)
          have HE : Hid (isG ⟨g.n, l1, ls⟩) := normal_is HC.out p1 p2 p3 (by rw [L2.out, hn2e]) HG.out
          have HI : Hid (GrIn (putG wr (w.heap.size + 1) g.n B1 k1 d1 B2 ls.length d2) (putG wr (w.heap.size + 1) g.n B1 k1 d1 B2 ls.length d2).heap.size ⟨g.n, l1, ls⟩ B1 k1 B2 ls.length us) :=
            grIn_own (g := ⟨g.n, l1, ls⟩) (hr HN.out.es (by decide)) (hr HN.out.ws (by decide)) (rows_setBox HN.out.rs HN.out.z (by decide) (putG_grown wr (w.heap.size + 1) g.n B1 k1 d1 B2 ls.length d2))
          have HZ : Hid (GAt (putG wr (w.heap.size + 1) g.n B1 k1 d1 B2 ls.length d2) (w.heap.size + 1) g.n B1 k1 d1 B2 ls.length d2) := putG_at HN.out.z g.n B1 k1 d1 B2 ls.length d2
          clear hr
          go_wp2_with (fail)
          refine (show bodyPost _ _ _ Exit.ret _ (putG wr (w.heap.size + 1) g.n B1 k1 d1 B2 ls.length d2) from ?_)
          exact normal_yes (g' := ⟨g.n, l1, ls⟩) rfl rfl rfl HZ.out HB.out HI.out HC.out HE.out ⟨rfl, P3.out⟩
    all_goals exact hq.elim
end Go.Proofs.YtpdnipabaimofaaGreat
