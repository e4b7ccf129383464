/-
  The walks of Deal: the program's and the reference's; of Same of rows of rows.
-/
import Derived.Test.YtpkhlikeggolbaaTurnTop
import Derived.Test.YtpkhlikeggolbaaInts
import Derived.Test.YtpkhlikeggolbaaRowsL
import Derived.Test.YtpkhlikeggolbaaDealPlain
import Derived.Deep.RegionLaw
import Derived.Lib.QuietBelow
namespace Go.Proofs.Ytpkhlikeggolbaa
open Go.RowKit

theorem elRow : Elem Try.prog 29 22 1 24 := Elem.mk_ Try.underlying29 (z := .slice none 0 0) (by kernel_rfl) rfl (by decide)

theorem refDeal_no (A : Option Addr) (n c : Nat) (p : Int) (w : World) (hp : p < 1 ∨ 100 < p) :
    Calls Try.prog 23 #[.slice A n c, .int .i64 p] w fun e w' => e = .returned (.slice none 0 0) ∧ w = w' := by
  rcases hp with hp | hp
  · go_enter Try.func23, Try.ntmps23
    go_wp2
    go_ret
    exact ⟨rfl, rfl⟩
  · have hn' : ¬ p < 1 := by omega
    go_enter Try.func23, Try.ntmps23
    go_wp2
    go_ret
    exact ⟨rfl, rfl⟩

/-- What an integer list of lists is as cells. -/
def ivs (l : List (List Int)) : List (List Value) := l.map iv

theorem refDeal_c (A : Option Addr) (n c p : Nat) (ps : List Int) (w : World) (hp1 : 1 ≤ p) (hp2 : p ≤ 100) (hr : Reads w w.heap.size 1 A n (iv ps)) (hn : n ≤ 1000000) :
    Calls Try.prog 23 #[.slice A n c, .int .i64 p] w fun e w' =>
      ∃ A' c' vs, e = .returned (.slice A' p c') ∧ w'.ownsRow w.heap.size 22 1 (.slice A' p c') p vs ∧ RowsOwn w' w.heap.size 3 1 vs (ivs (dealt ps p)) ∧ Below w.heap.size w w' := by
  have hd1 : (decide ((p : Int) < 1)) = false := by simp; omega
  have hl := Lib.hid hr.int_len
  go_enter Try.func23, Try.ntmps23
  go_wp2
  go_loopw [6, 5] (fun i out wr => ∃ (k : Nat) (A5 : Option Addr) (c5 : Nat) (vs : List Value), k ≤ p ∧ i = .int .i64 k ∧ out = .slice A5 k c5 ∧ wr.ownsRow w.heap.size 22 1 (.slice A5 k c5) k vs ∧
      RowsOwn wr w.heap.size 3 1 vs (ivs ((dealt ps p).take k)) ∧ Below w.heap.size w wr) (fun i _ _ => p - (intOf i).toNat)
  case atStart => exact ⟨0, none, 0, [], Nat.zero_le _, rfl, rfl, own_nil, by rw [List.take_zero]; exact rowsOwn_nil _ _ _ _, Below.refl _ _⟩
  case round =>
    obtain ⟨k, A5, c5, vs, hk, rfl, rfl, ho, hrs, hB⟩ := hrel
    have hsz := hB.size
    by_cases hlt : k < p
    · obtain ⟨wo, hwo⟩ : ∃ wo : World, wo = wr := ⟨_, rfl⟩
      subst hwo
      have HO := Lib.hid ho
      have HRS := Lib.hid hrs
      clear ho hrs
      go_wp2
      go_loopw [7, 8] (fun one kk wr => ∃ (q m : Nat) (A7 : Option Addr) (c7 : Nat), Hid (q % p = k) ∧ q ≤ n + p ∧ kk = .int .i64 q ∧ one = .slice A7 m c7 ∧ m ≤ q ∧ m ≤ n ∧
          wr.ownsRow wo.heap.size 3 1 (.slice A7 m c7) m (iv (dealFrom (ps.take q) p k 0)) ∧ Below wo.heap.size wo wr) (fun _ kk _ => (n + p) - (intOf kk).toNat)
      case atStart => exact ⟨k, 0, none, 0, Nat.mod_eq_of_lt hlt, by omega, rfl, rfl, Nat.zero_le _, Nat.zero_le _, by rw [dealFrom_take_first _ _ _ hlt]; exact own_nil, Below.refl _ _⟩
      case round =>
        obtain ⟨q, m, A7, c7, hqk, hqn, rfl, rfl, hmq, hmn, ho7, hB7⟩ := hrel
        have hsz7 := hB7.size
        by_cases hqlt : q < n
        · obtain ⟨b, o, x, rfl, hx, hcx⟩ := ((hr.below hB).below (hB7.mono hsz)).int_at hqlt
          go_wp2_with (at_builtin; refine wpList_push elInt rfl _ _ rfl ho7 rfl _ rfl rfl (one_int _ x) (by unfold maxLen; omega) (by omega) hsz7 ?_; intro A4 c4 w4 ho4 p4)
          go_roundw
          case rel =>
            refine ⟨q + p, m + 1, A4, c4, ?_, by omega, by go_num, rfl, by omega, by omega, ?_, p4.below ho7 hB7 (Nat.le_refl _) hsz7⟩
            · show _ = _; rw [Nat.add_mod_right]; exact hqk.out
            · rw [dealFrom_take_next _ _ _ _ _ (by omega) hqk.out hx.out, iv_append]; exact ho4
          case measure => simp [intOf]; omega
        · have hfin : Hid (dealFrom (ps.take q) p k 0 = dealFrom ps p k 0) := by show _ = _; rw [List.take_of_length_le (by have := hl.out; omega)]
          have ho5 := own_below HO.out hB7
          have hrs5 := HRS.out.below hB7
          have hap : Apart A5 A7 := apart_of_lt HO.out ho7 (Nat.le_refl _)
          have hapr : ApartAll vs A7 := HRS.out.apart_base ho7 (Nat.le_refl _)
          have hB5 : Below w.heap.size w wr := hB.trans (hB7.mono hsz)
          have hsz5 := hB5.size
          clear hB7
          go_wp2_with (at_builtin; refine wpList_push elRow rfl _ _ rfl ho5 rfl _ rfl rfl (one_slice _ _ _) (by unfold maxLen; omega) (by omega) hsz5 ?_; intro A4 c4 w4 ho4 p4)
          go_roundw
          case rel =>
            refine ⟨k + 1, A4, c4, vs ++ [.slice A7 m c7], by omega, by go_num, rfl, ho4, ?_, p4.below ho5 hB5 (Nat.le_refl _) hsz5⟩
            have hne : ApartAll vs A5 := hrs5.apart_ne ho5 (by decide)
            have h1 := (hrs5.kept p4 hne).snoc (own_more (p4.keep ho7 hap.symm) hsz) (hapr)
            have e : ivs ((dealt ps p).take (k + 1)) = ivs ((dealt ps p).take k) ++ [iv (dealFrom (ps.take q) p k 0)] := by
              rw [List.take_add_one, dealt_get _ _ _ hlt, hfin.out]; simp [ivs]
            rw [e]; exact h1
          case measure => simp [intOf]; omega
    · obtain rfl : p = k := by omega
      go_wp2
      go_ret
      refine ⟨A5, c5, vs, rfl, ho, ?_, hB⟩
      rw [List.take_of_length_le (by rw [dealt_len]; exact Nat.le_refl _)] at hrs
      exact hrs

theorem deal_no (A : Option Addr) (n c : Nat) (p : Int) (w : World) (hp : p < 1 ∨ 100 < p) :
    Calls Try.prog 15 #[.slice A n c, .int .i64 p] w fun e w' => e = .returned (.slice none 0 0) ∧ w = w' := by
  rcases hp with hp | hp
  · go_enter Try.func15, Try.ntmps15
    go_wp2
    go_ret
    exact ⟨rfl, rfl⟩
  · have hn' : ¬ p < 1 := by omega
    go_enter Try.func15, Try.ntmps15
    go_wp2
    go_ret
    exact ⟨rfl, rfl⟩

theorem infoRow : (Try.prog.info? 22).map (fun i => (i.zero, i.size, i.bytes)) = some (some (.slice none 0 0), 1, 24) := by kernel_rfl

theorem deal_c (A : Option Addr) (n c p : Nat) (ps : List Int) (w : World) (hp1 : 1 ≤ p) (hp2 : p ≤ 100) (hr : Reads w w.heap.size 1 A n (iv ps)) (hn : n ≤ 1000000) :
    Calls Try.prog 15 #[.slice A n c, .int .i64 p] w fun e w' =>
      ∃ A' c' vs, e = .returned (.slice A' p c') ∧ w'.ownsRow w.heap.size 22 1 (.slice A' p c') p vs ∧ RowsOwn w' w.heap.size 3 1 vs (ivs (dealt ps p)) ∧ Below w.heap.size w w' := by
  have hd1 : (decide ((p : Int) < 1)) = false := by simp; omega
  have hl := Lib.hid hr.int_len
  obtain ⟨i0, hi0, hz0, hz1, hz2⟩ := info_parts infoRow
  go_enter Try.func15, Try.ntmps15
  go_wp2_with (at_make; refine wpList_make_full _ rfl _ _ 29 rfl w.heap.size 22 i0 _ 1 Try.underlying29 hi0 hz0 hz1 _ _ _ _ p rfl rfl rfl rfl (by rw [hz2]; omega) (by unfold maxLen; omega) (Nat.le_refl _) ?_; intro w1 hown1 hg1)
  have hown : w1.ownsRow w.heap.size 22 1 (.slice (some ⟨w.heap.size, 0, none⟩) p p) p (List.replicate p (.slice none 0 0)) := by
    have e := toList_madeCells_one (.slice none 0 0) p
    rw [Nat.mul_one] at hown1
    exact e ▸ hown1
  have hB1 : Below w.heap.size w w1 := (Below.refl _ _).grown hg1 (Nat.le_refl _) (fun _ h => by cases h)
  clear hown1 hg1
  go_loopw [18] (fun i wr => ∃ (k : Nat) (vs : List Value), k ≤ n ∧ i = .int .i64 k ∧ wr.ownsRow w.heap.size 22 1 (.slice (some ⟨w.heap.size, 0, none⟩) p p) p vs ∧
      RowsOwn wr (w.heap.size + 1) 3 1 vs (ivs (dealt (ps.take k) p)) ∧ Below w.heap.size w wr) (fun i _ => n - (intOf i).toNat)
  case atStart =>
    refine ⟨0, _, Nat.zero_le _, rfl, hown, ?_, hB1⟩
    rw [List.take_zero, dealt_nil, ivs, List.map_replicate]
    exact rowsOwn_nils _ _ _ _ _
  case round =>
    obtain ⟨k, vs, hk, rfl, ho, hrs, hB⟩ := hrel
    have hsz := hB.size
    by_cases hlt : k < n
    · obtain ⟨b, o, x, rfl, hx, hcx⟩ := (hr.below hB).int_at hlt
      have hm := Nat.mod_lt k (show 0 < p by omega)
      obtain ⟨r, hrk⟩ : ∃ r, Hid (k % p = r) := ⟨_, rfl⟩
      rw [hrk.out] at hm
      have hrow : (ivs (dealt (ps.take k) p))[r]? = some (iv (dealFrom (ps.take k) p r 0)) := by rw [ivs, List.getElem?_map, dealt_get _ _ _ hm]; rfl
      obtain ⟨Ar, mr, cr, hvr, hor⟩ := hrs.at_ hrow
      have hcr := own_slice_at ho hvr
      have hfr := ho.frozenAt r
      have hg := (own_lt ho _ rfl).2
      have f1 : (k : Int).tmod (p : Int) = (r : Int) := by rw [Int.tmod_eq_emod_of_nonneg (by omega), ← hrk.out]; rfl
      have f2 : (k : Int) % (p : Int) = (r : Int) := by rw [← hrk.out]; rfl
      have f0 : ¬ p = 0 := by omega
      have f3 : (0 : Int) ≤ (r : Int) := by omega
      have f4 : (r : Int) < (p : Int) := by omega
      have hmr : mr ≤ n := by
        have h1 := hor.1
        rw [iv_len] at h1
        have h2 := dealFrom_le p r (ps.take k) 0
        have h3 := List.length_take_le k ps
        omega
      have hapo : Apart (some ⟨w.heap.size, 0, none⟩) Ar := own_ne ho hor (by decide)
      have hfin : Hid (∀ (A4 : Option Addr) (c4 : Nat) (w4 : World), w4.ownsRow (w.heap.size + 1) 3 1 (.slice A4 (mr + 1) c4) (mr + 1) (iv (dealFrom (ps.take k) p r 0) ++ #[Value.int .i64 x].toList) → Pushed wr w4 Ar A4 →
          w4.cell? ⟨w.heap.size, r, none⟩ = some (.slice Ar mr cr) ∧ w4.frozen? ⟨w.heap.size, r, none⟩ = false) := fun A4 c4 w4 _ p4 => by
        have h := p4.keep ho hapo
        exact ⟨own_slice_at h hvr, h.frozenAt r⟩
      have hend : Hid (∀ (A4 : Option Addr) (c4 : Nat) (w4 : World), w4.ownsRow (w.heap.size + 1) 3 1 (.slice A4 (mr + 1) c4) (mr + 1) (iv (dealFrom (ps.take k) p r 0) ++ #[Value.int .i64 x].toList) → Pushed wr w4 Ar A4 →
          (w4.setCell ⟨w.heap.size, r, none⟩ (.slice A4 (mr + 1) c4)).ownsRow w.heap.size 22 1 (.slice (some ⟨w.heap.size, 0, none⟩) p p) p (vs.set r (.slice A4 (mr + 1) c4)) ∧
          RowsOwn (w4.setCell ⟨w.heap.size, r, none⟩ (.slice A4 (mr + 1) c4)) (w.heap.size + 1) 3 1 (vs.set r (.slice A4 (mr + 1) c4)) (ivs (dealt (ps.take (k + 1)) p)) ∧
          Below w.heap.size w (w4.setCell ⟨w.heap.size, r, none⟩ (.slice A4 (mr + 1) c4))) := fun A4 c4 w4 ho4 p4 => by
        have h := (p4.keep ho hapo).stored r (.slice A4 (mr + 1) c4)
        have hlp := hl.out
        refine ⟨h.1, ?_, (p4.below hor hB (Nat.le_succ _) hsz).grown h.2 (Nat.le_trans hsz p4.larger) (fun g hg => by injection hg; omega)⟩
        have h2 := (hrs.push hvr (by rw [ivs, List.length_map, dealt_len]; exact hm) ho4 p4).only h.2 (Nat.lt_succ_self _)
        have hkl : (ps.take k).length = k := by rw [List.length_take]; omega
        have e : ivs (dealt (ps.take (k + 1)) p) = (ivs (dealt (ps.take k) p)).set r (iv (dealFrom (ps.take k) p r 0) ++ #[Value.int .i64 x].toList) := by
          rw [List.take_add_one, hx.out, Option.toList_some, dealt_snoc _ _ _ (by omega), hkl, hrk.out, ivs, List.map_set, iv_append]; rfl
        rw [e]; exact h2
      clear hrow hrs
      go_wp2
      go_region_law (first | (refine step_push_drew elInt rfl (.tmp 32) (.tmp 34) rfl hor rfl _ rfl rfl (one_int _ x) (by unfold maxLen; omega) (by omega) (by omega) ?_; intro A4 c4 w4 ho4 p4; obtain ⟨hc4, hf4⟩ := hfin.out A4 c4 w4 ho4 p4))
      all_goals
        go_wp2
        go_roundw
        case rel => exact ⟨k + 1, _, by omega, by go_num, hend.out A4 c4 w4 ho4 p4⟩
        case measure => simp [intOf]; omega
    · obtain rfl : n = k := by omega
      have hf : Hid (ps.take n = ps) := by show _ = _; exact List.take_of_length_le (by rw [hl.out]; exact Nat.le_refl _)
      rw [hf.out] at hrs
      go_wp2
      go_ret
      exact ⟨_, p, vs, rfl, ho, hrs.more (Nat.le_succ _), hB⟩

/-- A contract that ends in 'Below', met in any world behind w. -/
theorem regrown_call {P : Program} {f : FuncId} {args : Array Value} {w : World} {v : Value} (h : ∀ w', Below w.heap.size w w' → Calls P f args w' fun e w'' => e = .returned v ∧ Below w'.heap.size w' w'') (d : Nat) (os : Array Obj) :
    Calls P f args (Sort.grow (redrawn w d) os) fun e w'' => e = .returned v ∧ ∃ p : Regrown, w'' = Sort.grow (redrawn w p.d) p.os :=
  Calls.regrown_of (h _ (below_regrown w d os))

theorem same06_c (A1 A2 : Option Addr) (n1 n2 c1 c2 : Nat) (vs1 vs2 : List Value) (xs ys : List (List Int)) (w : World) (h1 : Reads w w.heap.size 1 A1 n1 vs1) (h2 : Reads w w.heap.size 1 A2 n2 vs2)
    (g1 : RowsRead w w.heap.size 1 vs1 (ivs xs)) (g2 : RowsRead w w.heap.size 1 vs2 (ivs ys)) (hn1 : n1 ≤ maxLen) (hn2 : n2 ≤ maxLen) :
    Calls Try.prog 25 #[.slice A1 n1 c1, .slice A2 n2 c2] w fun e w' => e = .returned (.bool (decide (xs = ys))) ∧ Below w.heap.size w w' := by
  have l1 : xs.length = n1 := by have e1 := h1.1; have e2 := g1.1; rw [ivs, List.length_map] at e2; omega
  have l2 : ys.length = n2 := by have e1 := h2.1; have e2 := g2.1; rw [ivs, List.length_map] at e2; omega
  unfold maxLen at hn1 hn2
  by_cases hn : n1 = n2
  · subst hn
    go_enter Try.func25, Try.ntmps25
    go_wp2
    go_loopw [5] (fun i wr => ∃ k : Nat, k ≤ n1 ∧ i = .int .i64 k ∧ Hid (xs.take k = ys.take k) ∧ Below w.heap.size w wr) (fun i _ => n1 - (intOf i).toNat)
    case atStart => exact ⟨0, Nat.zero_le _, rfl, rfl, Below.refl _ _⟩
    case round =>
      obtain ⟨k, hk, rfl, ht, hB⟩ := hrel
      have hsz := hB.size
      by_cases hlt : k < n1
      · have hx : xs[k]? = some (xs[k]'(by omega)) := List.getElem?_eq_getElem (by omega)
        have hy : ys[k]? = some (ys[k]'(by omega)) := List.getElem?_eq_getElem (by omega)
        generalize xs[k]'(by omega) = x at hx
        generalize ys[k]'(by omega) = y at hy
        obtain ⟨B1, m1, d1, hv1, hm1, hr1⟩ := g1.at_ (i := k) (r := iv x) (by rw [ivs, List.getElem?_map, hx]; rfl)
        obtain ⟨B2, m2, d2, hv2, hm2, hr2⟩ := g2.at_ (i := k) (r := iv y) (by rw [ivs, List.getElem?_map, hy]; rfl)
        obtain ⟨b1, o1, rfl, hc1⟩ := (h1.below hB).val_at hv1
        obtain ⟨b2, o2, rfl, hc2⟩ := (h2.below hB).val_at hv2
        have q1 := cell_regrown hc1
        have q2 := cell_regrown hc2
        have hcall := regrown_call (w := wr) (P := Try.prog) (f := 14) (fun w' hb => ints_c B1 B2 m1 m2 d1 d2 x y w' (((hr1.below hB).below (hb.mono hsz)).more (Nat.le_trans hsz hb.size)) (((hr2.below hB).below (hb.mono hsz)).more (Nat.le_trans hsz hb.size)) hm1 hm2)
        have HX := Lib.hid hx
        have HY := Lib.hid hy
        have L1 := Lib.hid l1
        have L2 := Lib.hid l2
        have HC := Lib.hid hcall
        clear l1 l2 hx hy hr1 hr2 h1 h2 g1 g2 hc1 hc2 hv1 hv2 hcall
        go_wp2
        refine wp_region_quiet_below (by kernel_rfl) (by kernel_rfl) ?_
        repeat (quiet_step (exact HC.out _ _))
        refine wpQuiet_nil ?_
        intro _ hw'
        obtain ⟨⟨dq, osq⟩, hw''⟩ := hw'
        have hB2 : Below w.heap.size w _ := hB.trans ((below_regrown wr dq osq).mono hsz)
        have HB2 := Lib.hid hB2
        clear hB2
        subst hw''
        go_wp2
        · have hne : (!decide (x = y)) = true := by assumption
          have hne : ¬ x = y := by simpa using hne
          have hf : ¬ xs = ys := fun e => hne (by
            have e1 := HX.out
            rw [e, HY.out] at e1
            injection e1 with e1; exact e1.symm)
          go_ret
          exact ⟨ret_bool (decide_eq_false hf).symm, HB2.out⟩
        · have he : (!decide (x = y)) = false := by assumption
          have he : x = y := by simpa using he
          go_roundw
          case rel =>
            refine ⟨k + 1, by omega, by go_num, ?_, HB2.out⟩
            show _ = _
            rw [List.take_add_one, List.take_add_one, ht.out, HX.out, HY.out, he]
          case measure => simp [intOf]; omega
      · obtain rfl : n1 = k := by omega
        have hf : Hid (xs = ys) := by
          have := ht.out
          rw [List.take_of_length_le (by omega), List.take_of_length_le (by omega)] at this
          exact this
        clear l1 l2
        go_wp2
        go_ret
        exact ⟨ret_bool (decide_eq_true hf.out).symm, hB⟩
  · have hf : Hid (¬ xs = ys) := fun e => hn (by rw [← l1, ← l2, e])
    clear l1 l2
    go_enter Try.func25, Try.ntmps25
    go_wp2
    go_ret
    exact ⟨ret_bool (decide_eq_false hf.out).symm, Below.refl _ _⟩
end Go.Proofs.Ytpkhlikeggolbaa
