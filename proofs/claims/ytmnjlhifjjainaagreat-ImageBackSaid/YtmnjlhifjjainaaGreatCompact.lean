/-
  slices.Compact: the walks.
-/
import Derived.Test.YtmnjlhifjjainaaGreatClone
namespace Go.Proofs.YtmnjlhifjjainaaGreat
open Go.RowKit

/-- What Compact gives of a row that does not fall: elements that rise, of the row. -/
def CompDone {α : Type} (w w' : World) (base g n c : Nat) (e : TypeId) (sz : Nat) (enc : List α → List Value) (lt : α → α → Prop) (l : List α) (en : Ending) : Prop :=
  ∃ (k : Nat) (l' : List α), en = .returned (.slice (some ⟨g, 0, none⟩) k c) ∧ Rises lt l' ∧ (∀ x ∈ l', x ∈ l) ∧ l'.length ≤ l.length ∧ w'.ownsRow base e sz (.slice (some ⟨g, 0, none⟩) k c) k (enc l') ∧ w.grownBy w' (some g)
theorem comp_all {α : Type} {w w' : World} {base g n c : Nat} {e : TypeId} {sz : Nat} {enc : List α → List Value} {lt : α → α → Prop} {l : List α} (h : Rises lt l) (ho : w'.ownsRow base e sz (.slice (some ⟨g, 0, none⟩) n c) n (enc l)) (hg : w.grownBy w' (some g)) :
    CompDone w w' base g n c e sz enc lt l (.returned (.slice (some ⟨g, 0, none⟩) n c)) := ⟨n, l, rfl, h, fun _ h => h, Nat.le_refl _, ho, hg⟩
theorem own_drewN {w : World} {base e size n c : Nat} {A : Option Addr} {xs : List Value} (h : w.ownsRow base e size (.slice A n c) n xs) (k : Nat) : (w.drewN k).ownsRow base e size (.slice A n c) n xs := own_below h (below_drewN (Below.refl _ _) k)
theorem E_at {w : World} {base e g k n c : Nat} {zs : List Edg} (h : w.ownsRow base e 2 (.slice (some ⟨g, 0, none⟩) n c) n (ev zs)) (hk : k < n) :
    ∃ m, Hid (zs[k]? = some m) ∧ w.cell? ⟨g, k * 2, none⟩ = some (.int .i64 m.src) ∧ w.cell? ⟨g, k * 2 + 1, none⟩ = some (.int .i64 m.dst) := by
  have hl : zs.length = n := by have := h.1; rw [ev_len] at this; omega
  have hx : zs[k]? = some (zs[k]'(by omega)) := List.getElem?_eq_getElem (by omega)
  have hf := fun r hr => flat_get ec 2 ec_len zs k r _ hx hr
  exact ⟨_, hx, by rw [h.cellAt _ (by omega)]; exact hf 0 (by omega), by rw [h.cellAt _ (by omega)]; exact hf 1 (by omega)⟩
theorem S_at {w : World} {base e g k n c : Nat} {zs : List ByteArray} (h : w.ownsRow base e 1 (.slice (some ⟨g, 0, none⟩) n c) n (sv zs)) (hk : k < n) : ∃ m, Hid (zs[k]? = some m) ∧ w.cell? ⟨g, k, none⟩ = some (.string m) := by
  have hl : zs.length = n := by have := h.1; simpa [sv] using this
  refine ⟨zs[k]'(by omega), List.getElem?_eq_getElem (by omega), ?_⟩
  rw [h.cellAt k (by omega)]
  simp [sv, show k < zs.length by omega]
theorem run_eql_edge (x y : Edg) (h : x ≠ y) (w : World) :
    (binOp .eql 38 (.agg #[.int .i64 x.src, .int .i64 x.dst]) (.agg #[.int .i64 y.src, .int .i64 y.dst])).run Tryz.prog w = .ok (.bool false) w := by
  have h' : ¬ (x.src = y.src ∧ x.dst = y.dst) := fun e => h ((Edg.eq_iff _ _).2 e)
  have H := Lib.hid h'
  clear h h'
  go_simp
  by_cases e1 : x.src = y.src
  · by_cases e2 : x.dst = y.dst
    · exact absurd ⟨e1, e2⟩ H.out
    · simp [e1, e2]
  · simp [e1]
theorem run_neq_edge2 (x y : Edg) (h : x ≠ y) (w : World) :
    (binOp .neq 38 (.agg #[.int .i64 x.src, .int .i64 x.dst]) (.agg #[.int .i64 y.src, .int .i64 y.dst])).run Tryz.prog w = .ok (.bool true) w := by
  have h' : ¬ (x.src = y.src ∧ x.dst = y.dst) := fun e => h ((Edg.eq_iff _ _).2 e)
  have H := Lib.hid h'
  clear h h'
  go_simp
  by_cases e1 : x.src = y.src
  · by_cases e2 : x.dst = y.dst
    · exact absurd ⟨e1, e2⟩ H.out
    · simp [e1, e2]
  · simp [e1]
theorem own_setE {w : World} {base e g n c k : Nat} {d : List Edg} (h : w.ownsRow base e 2 (.slice (some ⟨g, 0, none⟩) n c) n (ev d)) (u : Edg) :
    ((w.setCell ⟨g, k * 2, none⟩ (.int .i64 u.src)).setCell ⟨g, k * 2 + 1, none⟩ (.int .i64 u.dst)).ownsRow base e 2 (.slice (some ⟨g, 0, none⟩) n c) n (ev (d.set k u)) := by
  have h1 := ((h.stored (k * 2) (.int .i64 u.src)).1.stored (k * 2 + 1) (.int .i64 u.dst)).1
  rw [ev_set] at h1
  exact h1
theorem own_setS {w : World} {base e g n c k : Nat} {d : List ByteArray} (h : w.ownsRow base e 1 (.slice (some ⟨g, 0, none⟩) n c) n (sv d)) (u : ByteArray) :
    (w.setCell ⟨g, k, none⟩ (.string u)).ownsRow base e 1 (.slice (some ⟨g, 0, none⟩) n c) n (sv (d.set k u)) := by
  have h1 := (h.stored k (.string u)).1
  rw [sv_set] at h1
  exact h1
theorem only_grown1 {a w w' : World} {g : Nat} (h : a.grownBy w (some g)) (k : w.grownBy w' (some g)) : a.grownBy w' (some g) := only_trans_row h k
theorem totE (a b : Edg) (h : ¬ lessE b a) (hne : a ≠ b) : lessE a b := by
  have h2 : ¬ (a.src = b.src ∧ a.dst = b.dst) := fun e => hne ((Edg.eq_iff _ _).2 e)
  unfold lessE at *
  omega
theorem totW (a b : ByteArray) (h : ¬ ltW b a) (hne : a ≠ b) : ltW a b := by
  unfold ltW at *
  rcases Decidable.em (a.toList < b.toList) with h1 | h1
  · exact h1
  · refine absurd ?_ hne
    have h2 := List.le_antisymm (List.not_lt.1 h) (List.not_lt.1 h1)
    rw [Go.ByteArray.toList_eq, Go.ByteArray.toList_eq] at h2
    exact bytes_ext h2

set_option maxRecDepth 100000 in
set_option maxHeartbeats 4000000 in
theorem compactE_c (g n c base : Nat) (l : List Edg) (w : World) (ho : w.ownsRow base 38 2 (.slice (some ⟨g, 0, none⟩) n c) n (ev l)) (hs : l.Pairwise (fun a b => ¬ lessE b a)) (hn : n ≤ 1000000) :
    Calls Tryz.prog 35 #[.slice (some ⟨g, 0, none⟩) n c] w fun e w' => CompDone w w' base g n c 38 2 (ev) (lessE) l e := by
  have hl : l.length = n := by have h := ho.1; rw [ev_len] at h; omega
  have HL := Lib.hid hl
  have HS := Lib.hid hs
  have hcap := (own_cap ho).1
  have HO := Lib.hid ho
  clear ho hs
  by_cases h2 : n < 2
  · have H := Lib.hid (kept_all totE HS.out (j := 0) (fun m a b hm => absurd hm (Nat.not_lt_zero _)) (by omega))
    have h2' : (n : Int) < 2 := by omega
    clear hl
    go_enter Tryz.func35, Tryz.ntmps35
    go_wp2_with (fail)
    go_ret
    exact comp_all H.out HO.out (World.grownBy.refl _ _)
  · have h2' : ¬ (n : Int) < 2 := by omega
    clear hl
    go_enter Tryz.func35, Tryz.ntmps35
    go_wp2_with (fail)
    go_loopw [3] (fun i wr => ∃ j : Nat, j + 1 ≤ n ∧ i = .int .i64 ((j : Int) + 1) ∧ Hid (risesTo (fun a b => a ≠ b) l j) ∧ wr.ownsRow base 38 2 (.slice (some ⟨g, 0, none⟩) n c) n (ev l) ∧ w.grownBy wr (some g)) (fun i _ => n - (intOf i).toNat)
    case atStart => exact ⟨0, by omega, rfl, fun m a b hm => absurd hm (Nat.not_lt_zero _), HO.out, World.grownBy.refl _ _⟩
    case round =>
      clear HO
      obtain ⟨j, hj, rfl, hr, ho, hG⟩ := hrel
      by_cases hlt : j + 1 < n
      · obtain ⟨x, hx, d0, d1⟩ := E_at ho (k := j + 1) hlt
        obtain ⟨y, hy, e0, e1⟩ := E_at ho (k := j) (by omega)
        have f1 : (0 : Int) ≤ (j : Int) := by omega
        have f2 : (j : Int) < (n : Int) := by omega
        have f3 : (0 : Int) ≤ (j : Int) + 1 := by omega
        have f4 : (j : Int) + 1 < (n : Int) := by omega
        have f5 : IntKind.i64.wrap (j : Int) = (j : Int) := IntWalk.i64_in _ (by omega)
        have f6 : ((j : Int) + 1).toNat = j + 1 := by omega
        have HO := Lib.hid ho
        have HG := Lib.hid hG
        clear ho hG
        by_cases hxy : x = y
        · subst hxy
          have HK := Lib.hid (kept_start totE HS.out hr.out hy.out hx.out)
          go_wp2_with (fail)
          go_quiet (fail)
          go_wp2_with (fail)
          have HO := Lib.hid (own_drewN HO.out nq)
          have HG := Lib.hid (only_drewN HG.out nq)
          generalize wr.drewN nq = wr at HO HG ⊢
          clear d0 d1 e0 e1 f1 f2 f3 f4 f5 f6 hr
          go_loopw [3, 5] (fun s3 s5 wr => ∃ (k i2 : Nat) (d : List Edg), s3 = .int .i64 k ∧ s5 = .int .i64 ((i2 : Int) + 1) ∧ k ≤ j + 1 + i2 ∧ j + 1 + i2 + 1 ≤ n ∧ Hid (d.length = n) ∧ Hid (∀ m, j + 1 + i2 ≤ m → d[m]? = l[m]?) ∧ Hid (Kept lessE l (d.take k) (j + 1 + i2)) ∧
              wr.ownsRow base 38 2 (.slice (some ⟨g, 0, none⟩) n c) n (ev d) ∧ w.grownBy wr (some g)) (fun _ s5 _ => n - (intOf s5).toNat)
          case atStart => exact ⟨j + 1, 0, l, rfl, rfl, by omega, by omega, HL.out, fun _ _ => rfl, HK.out, HO.out, HG.out⟩
          case round =>
            clear HK HO HG
            obtain ⟨k, i2, d, rfl, rfl, hk, hi, hdl, hdm, hkp, ho, hG⟩ := hrel
            by_cases hlt2 : j + 1 + i2 + 1 < n
            · obtain ⟨u, hu, d0, d1⟩ := E_at ho (k := j + 1 + (i2 + 1)) (by omega)
              obtain ⟨v, hv, e0, e1⟩ := E_at ho (k := j + 1 + i2) (by omega)
              obtain ⟨o, -, p0, p1⟩ := E_at ho (k := k) (by omega)
              rw [Nat.add_mul] at d0 d1 e0 e1
              have g0 := ho.frozenAt (k * 2)
              have g1 := ho.frozenAt (k * 2 + 1)
              have hlu : Hid (l[j + 1 + i2 + 1]? = some u) := (hdm.out (j + 1 + i2 + 1) (by omega)).symm.trans hu.out
              have hlv : Hid (l[j + 1 + i2]? = some v) := (hdm.out (j + 1 + i2) (Nat.le_refl _)).symm.trans hv.out
              have f1 : (0 : Int) ≤ (i2 : Int) := by omega
              have f2 : (i2 : Int) < ((n - (j + 1) : Nat) : Int) := by omega
              have f3 : (0 : Int) ≤ (i2 : Int) + 1 := by omega
              have f4 : (i2 : Int) + 1 < ((n - (j + 1) : Nat) : Int) := by omega
              have f5 : IntKind.i64.wrap (i2 : Int) = (i2 : Int) := IntWalk.i64_in _ (by omega)
              have f6 : ((i2 : Int) + 1).toNat = i2 + 1 := by omega
              have HO := Lib.hid ho
              have HG := Lib.hid hG
              clear ho hG
              by_cases huv : u = v
              · subst huv
                have H := Lib.hid (kept_same hkp.out hlv.out hlu.out)
                go_wp2_with (fail)
                go_quiet (fail)
                go_wp2_with (fail)
                go_roundw
                case rel => exact ⟨k, i2 + 1, d, rfl, by go_num, by omega, by omega, hdl.out, fun m hm => hdm.out m (by omega), H.out, own_drewN HO.out _, only_drewN HG.out _⟩
                case measure => simp [intOf]; omega
              · have hrun := run_neq_edge2 u v huv
                have H : Hid (Kept lessE l ((d.set k u).take (k + 1)) (j + 1 + i2 + 1)) := by
                  show Kept _ _ _ _
                  rw [take_set_more (by have := hdl.out; omega)]
                  exact kept_more totE HS.out hkp.out hlv.out hlu.out (fun e => huv e.symm)
                have HD : Hid (∀ m, j + 1 + i2 + 1 ≤ m → (d.set k u)[m]? = l[m]?) := fun m hm => by rw [List.getElem?_set_ne (by omega)]; exact hdm.out m (by omega)
                have HDL : Hid ((d.set k u).length = n) := by show _ = _; rw [List.length_set]; exact hdl.out
                clear huv
                go_wp2_with (fail)
                go_quiet (fail)
                go_wp2_with (fail)
                go_roundw
                case rel => exact ⟨k + 1, i2 + 1, d.set k u, by go_num, by go_num, by omega, by omega, HDL.out, HD.out, H.out, own_setE (own_drewN HO.out _) u, only_setCellS (only_setCellS (only_drewN HG.out _) _ _) _ _⟩
                case measure => simp [intOf]; omega
            · have HO := Lib.hid ho
              have HG := Lib.hid hG
              have hkn : k < n := by omega
              obtain ⟨w6, hrun, ho6, hg6⟩ := run_clear_own (P := Tryz.prog) (w := wr) (t := 22) Tryz.underlying22 Tryz.zeroValue38 rfl (by intro u hu; simp [Value.cells] at hu; rcases hu with rfl | rfl <;> rfl) ho (k := k) (by omega) (dp := some ⟨g, k * 2, none⟩) (m := n - k) (d := c - k) rfl (fun _ => by first | rfl | (show some (⟨g, k, none⟩ : Addr) = some ⟨g, k * 1, none⟩; rw [Nat.mul_one]))
              have f1 : ¬ (i2 : Int) + 1 < ((n - (j + 1) : Nat) : Int) := by omega
              have HO6 : Hid (w6.ownsRow base 38 2 (.slice (some ⟨g, 0, none⟩) k c) k (ev (d.take k))) := by
                show World.ownsRow _ _ _ _ _ _ _
                rw [← ev_take]
                exact ho6
              have HG6 := Lib.hid (only_grown1 HG.out hg6)
              have hkl : Hid ((d.take k).length ≤ l.length) := by show _ ≤ _; rw [List.length_take, HL.out, hdl.out]; omega
              clear ho hG ho6 hg6
              go_wp2_with (fail)
              go_ret
              exact ⟨k, d.take k, rfl, hkp.out.rise, hkp.out.mem, hkl.out, HO6.out, HG6.out⟩
        · have hrun := run_eql_edge x y hxy
          have H := Lib.hid (rises_more hr.out hy.out hx.out (fun e => hxy e.symm))
          clear hxy
          go_wp2_with (fail)
          go_quiet (fail)
          go_wp2_with (fail)
          go_roundw
          case rel => exact ⟨j + 1, by omega, by go_num, H.out, own_drewN HO.out _, only_drewN HG.out _⟩
          case measure => simp [intOf]; omega
      · have H := Lib.hid (kept_all totE HS.out hr.out (by have := HL.out; omega))
        have HO := Lib.hid ho
        have HG := Lib.hid hG
        clear ho hG
        go_wp2_with (fail)
        go_ret
        exact comp_all H.out HO.out HG.out

set_option maxRecDepth 100000 in
set_option maxHeartbeats 4000000 in
theorem compactS_c (g n c base : Nat) (l : List ByteArray) (w : World) (ho : w.ownsRow base 9 1 (.slice (some ⟨g, 0, none⟩) n c) n (sv l)) (hs : l.Pairwise (fun a b => ¬ ltW b a)) (hn : n ≤ 1000000) :
    Calls Tryz.prog 41 #[.slice (some ⟨g, 0, none⟩) n c] w fun e w' => CompDone w w' base g n c 9 1 (sv) (ltW) l e := by
  have hl : l.length = n := by have h := ho.1; simpa [sv] using h
  have HL := Lib.hid hl
  have HS := Lib.hid hs
  have hcap := (own_cap ho).1
  have HO := Lib.hid ho
  clear ho hs
  by_cases h2 : n < 2
  · have H := Lib.hid (kept_all totW HS.out (j := 0) (fun m a b hm => absurd hm (Nat.not_lt_zero _)) (by omega))
    have h2' : (n : Int) < 2 := by omega
    clear hl
    go_enter Tryz.func41, Tryz.ntmps41
    go_wp2_with (fail)
    go_ret
    exact comp_all H.out HO.out (World.grownBy.refl _ _)
  · have h2' : ¬ (n : Int) < 2 := by omega
    clear hl
    go_enter Tryz.func41, Tryz.ntmps41
    go_wp2_with (fail)
    go_loopw [3] (fun i wr => ∃ j : Nat, j + 1 ≤ n ∧ i = .int .i64 ((j : Int) + 1) ∧ Hid (risesTo (fun a b => a ≠ b) l j) ∧ wr.ownsRow base 9 1 (.slice (some ⟨g, 0, none⟩) n c) n (sv l) ∧ w.grownBy wr (some g)) (fun i _ => n - (intOf i).toNat)
    case atStart => exact ⟨0, by omega, rfl, fun m a b hm => absurd hm (Nat.not_lt_zero _), HO.out, World.grownBy.refl _ _⟩
    case round =>
      clear HO
      obtain ⟨j, hj, rfl, hr, ho, hG⟩ := hrel
      by_cases hlt : j + 1 < n
      · obtain ⟨x, hx, d0⟩ := S_at ho (k := j + 1) hlt
        obtain ⟨y, hy, e0⟩ := S_at ho (k := j) (by omega)
        have f1 : (0 : Int) ≤ (j : Int) := by omega
        have f2 : (j : Int) < (n : Int) := by omega
        have f3 : (0 : Int) ≤ (j : Int) + 1 := by omega
        have f4 : (j : Int) + 1 < (n : Int) := by omega
        have f5 : IntKind.i64.wrap (j : Int) = (j : Int) := IntWalk.i64_in _ (by omega)
        have f6 : ((j : Int) + 1).toNat = j + 1 := by omega
        have HO := Lib.hid ho
        have HG := Lib.hid hG
        clear ho hG
        by_cases hxy : x = y
        · subst hxy
          have HK := Lib.hid (kept_start totW HS.out hr.out hy.out hx.out)
          go_wp2_with (fail)
          go_quiet (fail)
          go_wp2_with (fail)
          have HO := Lib.hid (own_drewN HO.out nq)
          have HG := Lib.hid (only_drewN HG.out nq)
          generalize wr.drewN nq = wr at HO HG ⊢
          clear d0 e0 f1 f2 f3 f4 f5 f6 hr
          go_loopw [3, 5] (fun s3 s5 wr => ∃ (k i2 : Nat) (d : List ByteArray), s3 = .int .i64 k ∧ s5 = .int .i64 ((i2 : Int) + 1) ∧ k ≤ j + 1 + i2 ∧ j + 1 + i2 + 1 ≤ n ∧ Hid (d.length = n) ∧ Hid (∀ m, j + 1 + i2 ≤ m → d[m]? = l[m]?) ∧ Hid (Kept ltW l (d.take k) (j + 1 + i2)) ∧
              wr.ownsRow base 9 1 (.slice (some ⟨g, 0, none⟩) n c) n (sv d) ∧ w.grownBy wr (some g)) (fun _ s5 _ => n - (intOf s5).toNat)
          case atStart => exact ⟨j + 1, 0, l, rfl, rfl, by omega, by omega, HL.out, fun _ _ => rfl, HK.out, HO.out, HG.out⟩
          case round =>
            clear HK HO HG
            obtain ⟨k, i2, d, rfl, rfl, hk, hi, hdl, hdm, hkp, ho, hG⟩ := hrel
            by_cases hlt2 : j + 1 + i2 + 1 < n
            · obtain ⟨u, hu, d0⟩ := S_at ho (k := j + 1 + (i2 + 1)) (by omega)
              obtain ⟨v, hv, e0⟩ := S_at ho (k := j + 1 + i2) (by omega)
              obtain ⟨o, -, p0⟩ := S_at ho (k := k) (by omega)
              skip
              have g0 := ho.frozenAt k
              have hlu : Hid (l[j + 1 + i2 + 1]? = some u) := (hdm.out (j + 1 + i2 + 1) (by omega)).symm.trans hu.out
              have hlv : Hid (l[j + 1 + i2]? = some v) := (hdm.out (j + 1 + i2) (Nat.le_refl _)).symm.trans hv.out
              have f1 : (0 : Int) ≤ (i2 : Int) := by omega
              have f2 : (i2 : Int) < ((n - (j + 1) : Nat) : Int) := by omega
              have f3 : (0 : Int) ≤ (i2 : Int) + 1 := by omega
              have f4 : (i2 : Int) + 1 < ((n - (j + 1) : Nat) : Int) := by omega
              have f5 : IntKind.i64.wrap (i2 : Int) = (i2 : Int) := IntWalk.i64_in _ (by omega)
              have f6 : ((i2 : Int) + 1).toNat = i2 + 1 := by omega
              have HO := Lib.hid ho
              have HG := Lib.hid hG
              clear ho hG
              by_cases huv : u = v
              · subst huv
                have H := Lib.hid (kept_same hkp.out hlv.out hlu.out)
                go_wp2_with (fail)
                go_quiet (fail)
                go_wp2_with (fail)
                go_roundw
                case rel => exact ⟨k, i2 + 1, d, rfl, by go_num, by omega, by omega, hdl.out, fun m hm => hdm.out m (by omega), H.out, own_drewN HO.out _, only_drewN HG.out _⟩
                case measure => simp [intOf]; omega
              · have hb : (u.toList == v.toList) = false := by rw [bytes_beq]; exact decide_eq_false huv
                have hb2 : (u.toList != v.toList) = true := by unfold bne; rw [hb]; rfl
                have H : Hid (Kept ltW l ((d.set k u).take (k + 1)) (j + 1 + i2 + 1)) := by
                  show Kept _ _ _ _
                  rw [take_set_more (by have := hdl.out; omega)]
                  exact kept_more totW HS.out hkp.out hlv.out hlu.out (fun e => huv e.symm)
                have HD : Hid (∀ m, j + 1 + i2 + 1 ≤ m → (d.set k u)[m]? = l[m]?) := fun m hm => by rw [List.getElem?_set_ne (by omega)]; exact hdm.out m (by omega)
                have HDL : Hid ((d.set k u).length = n) := by show _ = _; rw [List.length_set]; exact hdl.out
                clear huv
                go_wp2_with (fail)
                go_quiet (fail)
                go_wp2_with (fail)
                go_roundw
                case rel => exact ⟨k + 1, i2 + 1, d.set k u, by go_num, by go_num, by omega, by omega, HDL.out, HD.out, H.out, own_setS (own_drewN HO.out _) u, only_setCellS (only_drewN HG.out _) _ _⟩
                case measure => simp [intOf]; omega
            · have HO := Lib.hid ho
              have HG := Lib.hid hG
              have hkn : k < n := by omega
              obtain ⟨w6, hrun, ho6, hg6⟩ := run_clear_own (P := Tryz.prog) (w := wr) (t := 35) Tryz.underlying35 Tryz.zeroValue9 rfl (by intro u hu; simp [Value.cells] at hu; subst hu; rfl) ho (k := k) (by omega) (dp := some ⟨g, k, none⟩) (m := n - k) (d := c - k) rfl (fun _ => by first | rfl | (show some (⟨g, k, none⟩ : Addr) = some ⟨g, k * 1, none⟩; rw [Nat.mul_one]))
              have f1 : ¬ (i2 : Int) + 1 < ((n - (j + 1) : Nat) : Int) := by omega
              have HO6 : Hid (w6.ownsRow base 9 1 (.slice (some ⟨g, 0, none⟩) k c) k (sv (d.take k))) := by
                show World.ownsRow _ _ _ _ _ _ _
                rw [← sv_take]
                exact ho6
              have HG6 := Lib.hid (only_grown1 HG.out hg6)
              have hkl : Hid ((d.take k).length ≤ l.length) := by show _ ≤ _; rw [List.length_take, HL.out, hdl.out]; omega
              clear ho hG ho6 hg6
              go_wp2_with (fail)
              go_ret
              exact ⟨k, d.take k, rfl, hkp.out.rise, hkp.out.mem, hkl.out, HO6.out, HG6.out⟩
        · have hb : (x.toList == y.toList) = false := by rw [bytes_beq]; exact decide_eq_false hxy
          have H := Lib.hid (rises_more hr.out hy.out hx.out (fun e => hxy e.symm))
          clear hxy
          go_wp2_with (fail)
          go_quiet (fail)
          go_wp2_with (fail)
          go_roundw
          case rel => exact ⟨j + 1, by omega, by go_num, H.out, own_drewN HO.out _, only_drewN HG.out _⟩
          case measure => simp [intOf]; omega
      · have H := Lib.hid (kept_all totW HS.out hr.out (by have := HL.out; omega))
        have HO := Lib.hid ho
        have HG := Lib.hid hG
        clear ho hG
        go_wp2_with (fail)
        go_ret
        exact comp_all H.out HO.out HG.out
end Go.Proofs.YtmnjlhifjjainaaGreat
