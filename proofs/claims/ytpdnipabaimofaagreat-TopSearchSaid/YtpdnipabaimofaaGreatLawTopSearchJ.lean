/-
  TopSearch: the walk of the law.
-/
import Derived.Test.YtpdnipabaimofaaGreatJ44
import Derived.Test.YtpdnipabaimofaaGreatJ42
import Derived.StillTailTactics
import Derived.BigRegion
import Derived.Deep.RegionHeld3
namespace Go.Proofs.YtpdnipabaimofaaGreat
open Go Go.RowKit Go.Shelf Go.Lib
set_option linter.unusedVariables false
set_option linter.unusedSimpArgs false

theorem sought_end {w0 w : World} (hB : Below w0.heap.size w0 w) : Calls Tryz.prog 6 #[] w fun e w' => e = .returned (.bool true) ∧ Below w0.heap.size w0 w' :=
  (sought_c w).mono fun _ _ h => ⟨h.1, hB.trans (h.2.mono hB.size)⟩
theorem take_snocI {α : Type} {l : List α} {k : Nat} {x : α} (h : l[k]? = some x) : l.take (k + 1) = l.take k ++ [x] := by
  rw [List.take_add_one, h]; rfl
theorem least_same {r : Rws} {src radius first : Int} {p p' : List Int} (h : ∀ x, x ∈ p ↔ x ∈ p') (hl : LeastIs r src radius p first) : LeastIs r src radius p' first := by
  rcases hl with ⟨h1, h2⟩ | ⟨h1, ⟨q, hq, h2⟩, h3, h4⟩
  · exact .inl ⟨h1, fun q hq => h2 q ((h q).2 hq)⟩
  · exact .inr ⟨h1, ⟨q, (h q).1 hq, h2⟩, h3, fun q hq => h4 q ((h q).2 hq)⟩
theorem hits_same {S : List Msg} {p p' : List Int} (h : ∀ x, x ∈ p ↔ x ∈ p') : hitsL S p = hitsL S p' := by
  unfold hitsL
  congr 1
  refine List.filter_congr fun x _ => ?_
  rw [decide_eq_decide, h x.v]
theorem own_hits {w : World} {B n c : Nat} {A : Option Addr} {o : List Hit} (h : w.ownsRow B 43 2 (.slice A n c) n (hitsV o)) : o.length = n := by
  have h1 := (own_reads h).1
  unfold hitsV at h1
  rw [flat_len _ 2 (fun _ => rfl)] at h1
  omega

set_option maxRecDepth 100000 in
set_option maxHeartbeats 8000000 in
theorem topSearch_c (q : QuA) (a : RwA) (Al : Option Addr) (nl cl : Nat) (L : List Pst) (ws : List ByteArray) (k : Int) (Ap : Option Addr) (np cp : Nat) (ps : List Int) (w : World) (hwr : Reads w w.heap.size 1 q.W q.nw (sv ws)) (hwm : q.nw ≤ maxLen) (hws : ∀ s ∈ ws, s.size ≤ maxLen) (hcw : q.nw ≤ q.cw) (ha : RwIn w w.heap.size a) (hl : PsArg w Al nl L) (hP : Reads w w.heap.size 1 Ap np (iv ps)) (hnp : np ≤ maxLen) :
    Calls Tryz.prog 3 #[quVal q, rwVal a, .slice Al nl cl, .int .i64 k, .slice Ap np cp] w fun e w' => e = .returned (.bool true) ∧ Below w.heap.size w w' := by
  show Calls Tryz.prog 3 #[.agg #[.int .i64 q.kind, .int .i64 q.src, .int .i64 q.dst, .slice q.W q.nw q.cw, .int .i64 q.radius, .int .i64 q.most], .agg #[.slice a.A1 a.n1 a.c1, .slice a.A2 a.n2 a.c2, .slice a.A3 a.n3 a.c3, .slice a.A4 a.n4 a.c4], .slice Al nl cl, .int .i64 k, .slice Ap np cp] w _
  have hx := qbAt_new w q a
  obtain ⟨q0, q1, q2, q3, q4, q5⟩ := hx.qc
  obtain ⟨r0, r1, r2, r3⟩ := hx.rc
  unfold quBox rwBox at q0 q1 q2 q3 q4 q5 r0 r1 r2 r3
  have HX := Lib.hid hx
  have HA := Lib.hid ha
  have HP := Lib.hid hP
  have HWR := Lib.hid hwr
  have HWM := Lib.hid hwm
  have HWS := Lib.hid hws
  have HCW := Lib.hid hcw
  have HL := Lib.hid hl
  have hnl := hl.n_
  unfold maxLen at hnl
  clear hx hwr hwm hws ha hP hl hcw
  go_enter Tryz.func3, Tryz.ntmps3
  go_wp2_with (fail)
  refine (few_c a _).mono ?_
  rintro e w1 ⟨b, rfl, hb, hB1⟩
  have HX1 := Lib.hid (HX.out.step hB1)
  clear hB1 q0 q1 q2 q3 q4 q5 r0 r1 r2 r3 HX
  rcases b with _ | _
  · clear hb
    go_wp2_with (fail)
    refine (sought_end HX1.out.bel).mono ?_
    rintro e w2 ⟨rfl, hB2⟩
    go_wp2_with (fail)
    go_ret
    exact ⟨rfl, hB2⟩
  have HF := Lib.hid (hb rfl)
  clear hb
  obtain ⟨q0, q1, q2, q3, q4, q5⟩ := HX1.out.qc
  obtain ⟨r0, r1, r2, r3⟩ := HX1.out.rc
  go_wp2_with (fail)
  refine (short_c q.W q.nw q.cw ws _ ((HWR.out.below HX1.out.bel).more HX1.out.bel.size) HWM.out HWS.out).mono ?_
  rintro e w2 ⟨b, rfl, hb, hB2⟩
  have HX2 := Lib.hid (HX1.out.step hB2)
  clear hB2 q0 q1 q2 q3 q4 q5 r0 r1 r2 r3 HX1
  rcases b with _ | _
  · clear hb
    go_wp2_with (fail)
    refine (sought_end HX2.out.bel).mono ?_
    rintro e w3 ⟨rfl, hB3⟩
    go_wp2_with (fail)
    go_ret
    exact ⟨rfl, hB3⟩
  have HW60 := Lib.hid (hb rfl)
  clear hb
  by_cases h1 : 60 < np
  · have h1' : (60 : Int) < (np : Int) := by omega
    go_wp2_with (fail)
    refine (sought_end HX2.out.bel).mono ?_
    rintro e w3 ⟨rfl, hB3⟩
    go_wp2_with (fail)
    go_ret
    exact ⟨rfl, hB3⟩
  have h1' : ¬ (60 : Int) < (np : Int) := by omega
  by_cases h2 : 30 < nl
  · have h2' : (30 : Int) < (nl : Int) := by omega
    go_wp2_with (fail)
    refine (sought_end HX2.out.bel).mono ?_
    rintro e w3 ⟨rfl, hB3⟩
    go_wp2_with (fail)
    go_ret
    exact ⟨rfl, hB3⟩
  have h2' : ¬ (30 : Int) < (nl : Int) := by omega
  obtain ⟨q0, q1, q2, q3, q4, q5⟩ := HX2.out.qc
  by_cases h3 : q.kind = 3
  rotate_left
  · have g3 : (q.kind != 3) = true := by simpa using h3
    go_wp2_with (fail)
    refine (sought_end HX2.out.bel).mono ?_
    rintro e w3 ⟨rfl, hB3⟩
    go_wp2_with (fail)
    go_ret
    exact ⟨rfl, hB3⟩
  have g3 : (q.kind != 3) = false := by simpa using h3
  have H3 := Lib.hid h3
  clear h3
  by_cases h4 : k < 1
  · go_wp2_with (fail)
    refine (sought_end HX2.out.bel).mono ?_
    rintro e w3 ⟨rfl, hB3⟩
    go_wp2_with (fail)
    go_ret
    exact ⟨rfl, hB3⟩
  by_cases h5 : 16 < k
  · go_wp2_with (fail)
    refine (sought_end HX2.out.bel).mono ?_
    rintro e w3 ⟨rfl, hB3⟩
    go_wp2_with (fail)
    go_ret
    exact ⟨rfl, hB3⟩
  obtain ⟨kk, rfl⟩ : ∃ kk : Nat, k = (kk : Int) := ⟨k.toNat, by omega⟩
  go_wp2_with (fail)
  clear q0 q1 q2 q3 q4 q5
  go_loopw [11] (fun i wr => ∃ j : Nat, j ≤ nl ∧ i = .int .i64 j ∧ Hid (∀ d ∈ L.take j, d.n ≤ 60) ∧ wr = w2) (fun i _ => nl - (intOf i).toNat)
  case atStart => exact ⟨0, Nat.zero_le _, rfl, fun c hc => by simp at hc, rfl⟩
  case round =>
    obtain ⟨j, hj, rfl, hall, rfl⟩ := hrel
    by_cases hlt : j < nl
    · obtain ⟨b1, o1, p, hA, hp, c0, c1⟩ := ((HL.out.in_.below HX2.out.bel).more HX2.out.bel.size).get hlt
      subst hA
      have hpm := List.mem_of_getElem? hp.out
      have hxz := HL.out.w_ p hpm
      have hpz := (HL.out.in_.at_ p hpm).2.1
      unfold maxLen at hxz hpz
      have f1 : (0 : Int) ≤ (j : Int) := by omega
      have f2 : (j : Int) < (nl : Int) := by omega
      clear hpm
      by_cases hm : p.n ≤ 60
      · have H := Lib.hid (all_more (p := fun d : Pst => d.n ≤ 60) hall.out hp.out hm)
        have f3 : ¬ (60 : Int) < (p.n : Int) := by omega
        by_cases hm2 : p.w.size ≤ 60
        · have f4 : ¬ (60 : Int) < (p.w.size : Int) := by omega
          go_wp2_with (fail)
          go_roundw
          case rel => exact ⟨j + 1, by omega, by go_num, H.out, trivial⟩
          case measure => simp [intOf]; omega
        · have f4 : (60 : Int) < (p.w.size : Int) := by omega
          go_wp2_with (fail)
          refine (sought_end HX2.out.bel).mono ?_
          rintro e w3 ⟨rfl, hB3⟩
          go_wp2_with (fail)
          go_ret
          exact ⟨rfl, hB3⟩
      · have f3 : (60 : Int) < (p.n : Int) := by omega
        go_wp2_with (fail)
        refine (sought_end HX2.out.bel).mono ?_
        rintro e w3 ⟨rfl, hB3⟩
        go_wp2_with (fail)
        go_ret
        exact ⟨rfl, hB3⟩
    · obtain rfl : j = nl := by omega
      have HALL : Hid (∀ d ∈ L, d.n ≤ 60) := all_full hall.out (by have := HL.out.in_.len; omega)
      clear hall hj hlt
      obtain ⟨q0, q1, q2, q3, q4, q5⟩ := HX2.out.qc
      obtain ⟨r0, r1, r2, r3⟩ := HX2.out.rc
      go_wp2_with (fail)
      have hrn : a.r.n ≤ 190 := by
        have h1 := HF.out.1
        have h2 := HA.out.off.1
        unfold iv at h2
        rw [List.length_map] at h2
        unfold Rws.n
        omega
      have HRN := Lib.hid hrn
      have hnw : q.nw ≤ 9223372036854775807 := HWM.out
      have hk16 : 1 ≤ kk ∧ kk ≤ 16 := ⟨by omega, by omega⟩
      have hnp' : np ≤ maxLen := hnp
      clear hrn
      refine (runWords_c (ws := ws) (L := L) H3.out ((HL.out.in_.below HX2.out.bel).more HX2.out.bel.size) (by omega) (fun p hp => by have := HALL.out p hp; omega) ((HWR.out.below HX2.out.bel).more HX2.out.bel.size) (fun s hs => by have := HW60.out s hs; omega) hnw HCW.out (HX2.out.rw_ HA.out) HRN.out ((HP.out.below HX2.out.bel).more HX2.out.bel.size) hnp' hk16).mono ?_
      rintro e w3 (⟨c, hc, rfl, hB3⟩ | ⟨A3, n3, c3, o, places, S, m, t, rfl, ⟨hc, hok⟩, hpl, hf, hoo, hran, hB3⟩)
      · have HX3 := Lib.hid (HX2.out.step (hB3.trans ((below_one w3 (.cells #[.bool false, .int .i64 0, .slice none 0 0] 36)).mono hB3.size)))
        have y0 : (w3.alloc (.cells #[.bool false, .int .i64 0, .slice none 0 0] 36)).heap[w3.heap.size]? = some (.cells #[.bool false, .int .i64 0, .slice none 0 0] 36 (0, 0)) := World.alloc_heap_new w3 _
        have HY := Lib.hid y0
        clear q0 q1 q2 q3 q4 q5 r0 r1 r2 r3 hB3 HX2 y0
        obtain ⟨q0, q1, q2, q3, q4, q5⟩ := HX3.out.qc
        dsimp only
        go_wp2_with (fail)
        refine (postAll_c (L := L) q.W q.nw q.cw ws ((HL.out.in_.below HX3.out.bel).more HX3.out.bel.size) (by omega) (fun p hp => by have := HALL.out p hp; omega) ((HWR.out.below HX3.out.bel).more HX3.out.bel.size) hnw HCW.out).mono ?_
        rintro e w4 ⟨A4, n4, c4, pl, rfl, hn4, -, -, hB4⟩
        have HX4 := Lib.hid (HX3.out.step hB4)
        have HY4 := Lib.hid ((hB4.block _ (Array.getElem?_eq_some_iff.1 HY.out).1).trans HY.out)
        generalize (if q.nw = 0 then (1 : Int) else 0) = ff
        clear q0 q1 q2 q3 q4 q5 hB4 HX3 HY
        dsimp only
        go_wp2_with (fail)
        refine (sought_c w4).mono ?_
        rintro e w5 ⟨rfl, hB5⟩
        have y1 : w5.cell? ⟨w3.heap.size, 0, none⟩ = some (.bool false) := by
          rw [Lib.cell_of_heap ((hB5.block _ (Array.getElem?_eq_some_iff.1 HY4.out).1).trans HY4.out)]; rfl
        have HB5 := Lib.hid (HX4.out.bel.trans (hB5.mono HX4.out.bel.size))
        clear hB5 HX4 HY4
        dsimp only
        go_wp2_with (fail)
        go_ret
        exact ⟨rfl, HB5.out⟩
      · rw [H3.out] at hran
        have hn1 := rw_n HA.out hc
        rw [hn1] at hok
        obtain ⟨-, hsrc, -, hok3⟩ := hok
        have hnw1 : 1 ≤ q.nw := (hok3 H3.out).2.2.1
        have HOL := Lib.hid (own_hits hoo)
        generalize hfb : decide (0 < n3) = fb
        have HFB := Lib.hid hfb
        have HC := Lib.hid hc
        have HSRC := Lib.hid hsrc
        have HFI := Lib.hid hf
        have HPL := Lib.hid hpl
        have HRAN := Lib.hid hran
        have hbx := below_one w3 (.cells #[.bool fb, .int .i64 0, .slice A3 n3 c3] 36)
        have y0 : (w3.alloc (.cells #[.bool fb, .int .i64 0, .slice A3 n3 c3] 36)).heap[w3.heap.size]? = some (.cells #[.bool fb, .int .i64 0, .slice A3 n3 c3] 36 (0, 0)) := World.alloc_heap_new w3 _
        have HX3 := Lib.hid (HX2.out.step (hB3.trans (hbx.mono hB3.size)))
        have HOO := Lib.hid (own_below hoo hbx)
        have HY := Lib.hid y0
        have hm1 := HA.out.m1
        unfold maxLen at hm1
        clear q0 q1 q2 q3 q4 q5 r0 r1 r2 r3 hB3 HX2 y0 hoo hfb hc hsrc hf hpl hran hok3 hbx
        obtain ⟨q0, q1, q2, q3, q4, q5⟩ := HX3.out.qc
        dsimp only
        go_wp2_with (fail)
        refine (postAll_c (L := L) q.W q.nw q.cw ws ((HL.out.in_.below HX3.out.bel).more HX3.out.bel.size) (by omega) (fun p hp => by have := HALL.out p hp; omega) ((HWR.out.below HX3.out.bel).more HX3.out.bel.size) hnw HCW.out).mono ?_
        rintro e w4 ⟨A4, n4, c4, pl, rfl, hn4, hpl4, hop, hB4⟩
        rw [if_neg (show ¬ q.nw = 0 by omega)]
        have HX4 := Lib.hid (HX3.out.step hB4)
        have HY4 := Lib.hid ((hB4.block _ (Array.getElem?_eq_some_iff.1 HY.out).1).trans HY.out)
        have HOO4 := Lib.hid (own_below HOO.out hB4)
        have HPO := Lib.hid (own_reads hop)
        have HPM : Hid (∀ x, x ∈ places ↔ x ∈ pl) := fun x => (HPL.out x).trans (hpl4 (by omega) x).symm
        have HPN : Hid (pl.length = n4) := (own_reads hop).int_len
        clear q0 q1 q2 q3 q4 q5 hB4 HX3 HY HOO hpl4 hop HPL
        dsimp only
        go_wp2_with (fail)
        go_loopw [18, 17] (fun i f wr => ∃ (j : Nat) (fi : Int), j ≤ n4 ∧ i = .int .i64 j ∧ f = .int .i64 fi ∧ Hid (LeastIs a.r q.src q.radius (pl.take j) fi) ∧ Hid (Below w4.heap.size w4 wr)) (fun i _ _ => n4 - (intOf i).toNat)
        case atStart => exact ⟨0, -1, Nat.zero_le _, rfl, rfl, least_nil, Below.refl _ _⟩
        case round =>
          obtain ⟨j, fi, hj, rfl, rfl, HLE, HBW⟩ := hrel
          by_cases hlt2 : j < n4
          · obtain ⟨b5, o5, x, hA4, hxx, hcx⟩ := HPO.out.int_at hlt2
            subst hA4
            have htk : pl.take (j + 1) = pl.take j ++ [x] := take_snocI hxx.out
            have hb5 : b5 < w4.heap.size := by
              obtain ⟨b', o', e', hb', -⟩ := HPO.out.2 (by omega)
              cases e'
              exact hb'
            have HXX := Lib.hid hxx
            have HKS : Hid (∀ W, Below w4.heap.size w4 W → (W.cell? ⟨w.heap.size, 1, none⟩ = some (.int .i64 q.src) ∧ W.cell? ⟨w.heap.size, 4, none⟩ = some (.int .i64 q.radius) ∧ (W.cell? ⟨w.heap.size + 1, 0, none⟩ = some (.slice a.A1 a.n1 a.c1) ∧ W.cell? ⟨w.heap.size + 1, 1, none⟩ = some (.slice a.A2 a.n2 a.c2) ∧ W.cell? ⟨w.heap.size + 1, 2, none⟩ = some (.slice a.A3 a.n3 a.c3) ∧ W.cell? ⟨w.heap.size + 1, 3, none⟩ = some (.slice a.A4 a.n4 a.c4)) ∧ W.cell? ⟨b5, o5 + j, none⟩ = some (.int .i64 x))) := fun W hB => by
              have hX := HX4.out.step hB
              exact ⟨hX.qc.2.1, hX.qc.2.2.2.2.1, hX.rc, (World.cell?_of_block (hB.block _ hb5)).trans hcx⟩
            have HB1 : Hid (Below w4.heap.size w4 wr.drew) := HBW.out.trans ((Below.refl _ _).drew.mono HBW.out.size)
            have f1 : (0 : Int) ≤ (j : Int) := by omega
            have f2 : (j : Int) < (n4 : Int) := by omega
            have hn1' := hn1
            obtain ⟨k1, k4, ⟨r0, r1, r2, r3⟩, kx⟩ := HKS.out wr HBW.out
            clear hxx hcx
            by_cases hx0 : x < 0
            · have HLE2 : Hid (LeastIs a.r q.src q.radius (pl.take (j + 1)) fi) := by
                show LeastIs _ _ _ _ _
                rw [htk]
                exact least_out HLE.out (by omega)
              clear htk
              go_wp2_with (fail)
              go_region
              go_wp2_with (fail)
              go_roundw
              case rel => exact ⟨j + 1, fi, by omega, by go_num, rfl, HLE2.out, HB1.out⟩
              case measure => simp [intOf]; omega
            by_cases hxn : (a.r.n : Int) ≤ x
            · have HLE2 : Hid (LeastIs a.r q.src q.radius (pl.take (j + 1)) fi) := by
                show LeastIs _ _ _ _ _
                rw [htk]
                exact least_out HLE.out (by omega)
              have g5 : (a.n1 : Int) - 1 ≤ x := by omega
              clear htk
              go_wp2_with (fail)
              have gx : ¬ x < 0 := by omega
              go_region
              go_wp2_with (fail)
              go_roundw
              case rel => exact ⟨j + 1, fi, by omega, by go_num, rfl, HLE2.out, HB1.out⟩
              case measure => simp [intOf]; omega
            have hp' : 0 ≤ x ∧ x < (a.r.n : Int) := ⟨by omega, by omega⟩
            have g5 : ¬ (a.n1 : Int) - 1 ≤ x := by omega
            have HRUN : Hid (∀ W, Below w4.heap.size w4 W → Calls Tryz.prog 7 #[.agg #[.int .i64 1, .int .i64 q.src, .int .i64 x, .slice none 0 0, .int .i64 0, .int .i64 0], .agg #[.slice a.A1 a.n1 a.c1, .slice a.A2 a.n2 a.c2, .slice a.A3 a.n3 a.c3, .slice a.A4 a.n4 a.c4], .slice none 0 0, .int .i64 (kk : Int), .int .i64 300, .slice Ap np cp] W fun e w' => ∃ (fd : Bool) (d : Int) (m : Nat), e = .returned (.tuple #[.agg #[.bool fd, .int .i64 d, .slice none 0 0], .int .i64 (m : Int), .int .i64 0]) ∧ FarIs a.r q.src x fd d ∧ Below W.heap.size W w') := fun W hB => by
              have hX := HX4.out.step hB
              exact runFar_c (q := ⟨1, q.src, x, none, 0, 0, 0, 0⟩) (a := a) rfl (hX.rw_ HA.out) HC.out HRN.out HSRC.out hp' ((HP.out.below hX.bel).more hX.bel.size) hnp hk16
            have HPP := Lib.hid hp'
            have HTK := Lib.hid htk
            clear htk hp'
            go_wp2_with (fail)
            have gx : ¬ x < 0 := by omega
            have gx2 : ¬ (a.n1 : Int) - 1 ≤ x := by omega
            go_region
            go_wp2_with (fail)
            generalize hw6 : wr.drew = w6 at HB1 ⊢
            have HB2 : Hid (Below w4.heap.size w4 w6.drew) := HB1.out.trans ((Below.refl _ _).drew.mono HB1.out.size)
            have HBA : Hid (Below w4.heap.size w4 (w6.alloc (.cells #[.bool false, .int .i64 0, .slice none 0 0] 36)).drew) := by
              have h : Below w4.heap.size w4 (w6.alloc (.cells #[.bool false, .int .i64 0, .slice none 0 0] 36)) := HB1.out.alloc HB1.out.size _
              exact h.trans ((Below.refl _ _).drew.mono h.size)
            have hya : (w6.alloc (.cells #[.bool false, .int .i64 0, .slice none 0 0] 36)).drew.heap[w6.heap.size]? = some (.cells #[.bool false, .int .i64 0, .slice none 0 0] 36 (0, 0)) := World.alloc_heap_new w6 _
            have HYA := Lib.hid hya
            clear hw6 k1 k4 r0 r1 r2 r3 kx hya
            obtain ⟨k1, k4, ⟨r0, r1, r2, r3⟩, kx⟩ := HKS.out w6 HB1.out
            go_region_held3 (fun W : World => (W.cell? ⟨w.heap.size, 1, none⟩ = some (.int .i64 q.src) ∧ W.cell? ⟨w.heap.size, 4, none⟩ = some (.int .i64 q.radius) ∧ (W.cell? ⟨w.heap.size + 1, 0, none⟩ = some (.slice a.A1 a.n1 a.c1) ∧ W.cell? ⟨w.heap.size + 1, 1, none⟩ = some (.slice a.A2 a.n2 a.c2) ∧ W.cell? ⟨w.heap.size + 1, 2, none⟩ = some (.slice a.A3 a.n3 a.c3) ∧ W.cell? ⟨w.heap.size + 1, 3, none⟩ = some (.slice a.A4 a.n4 a.c4)) ∧ W.cell? ⟨b5, o5 + j, none⟩ = some (.int .i64 x)))
              (first | exact HKS.out _ HB2.out | exact HKS.out _ HBA.out | exact HKS.out _ HB7.out | exact HKS.out _ (((HB7.out.setCell (by exact HB1.out.size) _).setCell (by exact HB1.out.size) _).setCell (by exact HB1.out.size) _) | exact HKS.out _ (HB7.out.alloc HB7.out.size _) | exact HKS.out _ ((((HB7.out.alloc HB7.out.size _).setCell (by exact HB7.out.size) _).setCell (by exact HB7.out.size) _).setCell (by exact HB7.out.size) _))
              ((first
                | (go_at_call 7; refine (HRUN.out _ HB2.out).mono ?_; rintro e w7 ⟨fd, d, m7, rfl, hfar, hB7⟩; have HB7 := Lib.hid (HB2.out.trans (hB7.mono HB2.out.size)); have HFAR := Lib.hid hfar; clear hfar hB7)
                | (go_at_call 7; refine (HRUN.out _ HBA.out).mono ?_; rintro e w7 ⟨fd, d, m7, rfl, hfar, hB7⟩; have hy7 := (hB7.block _ (Array.getElem?_eq_some_iff.1 HYA.out).1).trans HYA.out; have HB7 := Lib.hid (HBA.out.trans (hB7.mono HBA.out.size)); have HFAR := Lib.hid hfar; have HY7 := Lib.hid hy7; obtain ⟨a0, a1, a2⟩ := ans_cells hy7; have e0 := Lib.frozen_of_heap hy7 0; have e1 := Lib.frozen_of_heap hy7 1; have e2 := Lib.frozen_of_heap hy7 2; clear hfar hB7 hy7)))
            all_goals clear k1 k4 r0 r1 r2 r3 kx
            all_goals first
              | (have hy7' := HY7.out
                 clear hy7'
                 have hB8 := ((HB7.out.setCell (p := ⟨w6.heap.size, 0, none⟩) HB1.out.size (.bool fd)).setCell (p := ⟨w6.heap.size, 1, none⟩) HB1.out.size (.int .i64 d)).setCell (p := ⟨w6.heap.size, 2, none⟩) HB1.out.size (.slice none 0 0)
                 have hy8 : (((w7.setCell ⟨w6.heap.size, 0, none⟩ (.bool fd)).setCell ⟨w6.heap.size, 1, none⟩ (.int .i64 d)).setCell ⟨w6.heap.size, 2, none⟩ (.slice none 0 0)).heap[w6.heap.size]? = some (.cells #[.bool fd, .int .i64 d, .slice none 0 0] 36 (0, 0)) := by
                   have h := heap_setCell_same _ w6.heap.size 2 _ _ (.slice none 0 0) (heap_setCell_same _ w6.heap.size 1 _ _ (.int .i64 d) (heap_setCell_same w7 w6.heap.size 0 _ _ (.bool fd) HY7.out))
                   simpa using h
                 generalize (((w7.setCell ⟨w6.heap.size, 0, none⟩ (.bool fd)).setCell ⟨w6.heap.size, 1, none⟩ (.int .i64 d)).setCell ⟨w6.heap.size, 2, none⟩ (.slice none 0 0)) = w8 at hB8 hy8 ⊢
                 have HB8 := Lib.hid hB8
                 obtain ⟨z0, z1, -⟩ := ans_cells hy8
                 obtain ⟨k1, k4, ⟨r0, r1, r2, r3⟩, kx⟩ := HKS.out w8 hB8
                 clear hB8 hy8
                 cases fd
                 · have HL : Hid (LeastIs a.r q.src q.radius (pl.take (j + 1)) fi) := by
                     show LeastIs _ _ _ _ _
                     rw [HTK.out]
                     have h := least_in HLE.out HPP.out HFAR.out
                     rw [if_neg (by simp)] at h
                     exact h
                   go_wp2_with (fail)
                   go_roundw
                   case rel => exact ⟨j + 1, fi, by omega, by go_num, rfl, HL.out, HB8.out⟩
                   case measure => simp [intOf]; omega
                 · by_cases hrd : d ≤ q.radius
                   rotate_left
                   · have HL : Hid (LeastIs a.r q.src q.radius (pl.take (j + 1)) fi) := by
                       show LeastIs _ _ _ _ _
                       rw [HTK.out]
                       have h := least_in HLE.out HPP.out HFAR.out
                       rw [if_neg (fun h => hrd h.2.1)] at h
                       exact h
                     go_wp2_with (fail)
                     go_roundw
                     case rel => exact ⟨j + 1, fi, by omega, by go_num, rfl, HL.out, HB8.out⟩
                     case measure => simp [intOf]; omega
                   · by_cases hf0 : fi < 0
                     · have HL : Hid (LeastIs a.r q.src q.radius (pl.take (j + 1)) d) := by
                         show LeastIs _ _ _ _ _
                         rw [HTK.out]
                         have h := least_in HLE.out HPP.out HFAR.out
                         rw [if_pos ⟨rfl, hrd, .inl hf0⟩] at h
                         exact h
                       go_wp2_with (fail)
                       go_roundw
                       case rel => exact ⟨j + 1, d, by omega, by go_num, rfl, HL.out, HB8.out⟩
                       case measure => simp [intOf]; omega
                     · by_cases hdf : d < fi
                       · have HL : Hid (LeastIs a.r q.src q.radius (pl.take (j + 1)) d) := by
                           show LeastIs _ _ _ _ _
                           rw [HTK.out]
                           have h := least_in HLE.out HPP.out HFAR.out
                           rw [if_pos ⟨rfl, hrd, .inr hdf⟩] at h
                           exact h
                         go_wp2_with (fail)
                         go_roundw
                         case rel => exact ⟨j + 1, d, by omega, by go_num, rfl, HL.out, HB8.out⟩
                         case measure => simp [intOf]; omega
                       · have HL : Hid (LeastIs a.r q.src q.radius (pl.take (j + 1)) fi) := by
                           show LeastIs _ _ _ _ _
                           rw [HTK.out]
                           have h := least_in HLE.out HPP.out HFAR.out
                           rw [if_neg (fun h => h.2.2.elim hf0 hdf)] at h
                           exact h
                         go_wp2_with (fail)
                         go_roundw
                         case rel => exact ⟨j + 1, fi, by omega, by go_num, rfl, HL.out, HB8.out⟩
                         case measure => simp [intOf]; omega)
              | (
                 have hB8 := HB7.out.trans ((below_one w7 (.cells #[.bool fd, .int .i64 d, .slice none 0 0] 36)).mono HB7.out.size)
                 have hy8 : (w7.alloc (.cells #[.bool fd, .int .i64 d, .slice none 0 0] 36)).heap[w7.heap.size]? = some (.cells #[.bool fd, .int .i64 d, .slice none 0 0] 36 (0, 0)) := World.alloc_heap_new w7 _
                 generalize w7.alloc (.cells #[.bool fd, .int .i64 d, .slice none 0 0] 36) = w8 at hB8 hy8 ⊢
                 have HB8 := Lib.hid hB8
                 obtain ⟨z0, z1, -⟩ := ans_cells hy8
                 obtain ⟨k1, k4, ⟨r0, r1, r2, r3⟩, kx⟩ := HKS.out w8 hB8
                 clear hB8 hy8
                 cases fd
                 · have HL : Hid (LeastIs a.r q.src q.radius (pl.take (j + 1)) fi) := by
                     show LeastIs _ _ _ _ _
                     rw [HTK.out]
                     have h := least_in HLE.out HPP.out HFAR.out
                     rw [if_neg (by simp)] at h
                     exact h
                   go_wp2_with (fail)
                   go_roundw
                   case rel => exact ⟨j + 1, fi, by omega, by go_num, rfl, HL.out, HB8.out⟩
                   case measure => simp [intOf]; omega
                 · by_cases hrd : d ≤ q.radius
                   rotate_left
                   · have HL : Hid (LeastIs a.r q.src q.radius (pl.take (j + 1)) fi) := by
                       show LeastIs _ _ _ _ _
                       rw [HTK.out]
                       have h := least_in HLE.out HPP.out HFAR.out
                       rw [if_neg (fun h => hrd h.2.1)] at h
                       exact h
                     go_wp2_with (fail)
                     go_roundw
                     case rel => exact ⟨j + 1, fi, by omega, by go_num, rfl, HL.out, HB8.out⟩
                     case measure => simp [intOf]; omega
                   · by_cases hf0 : fi < 0
                     · have HL : Hid (LeastIs a.r q.src q.radius (pl.take (j + 1)) d) := by
                         show LeastIs _ _ _ _ _
                         rw [HTK.out]
                         have h := least_in HLE.out HPP.out HFAR.out
                         rw [if_pos ⟨rfl, hrd, .inl hf0⟩] at h
                         exact h
                       go_wp2_with (fail)
                       go_roundw
                       case rel => exact ⟨j + 1, d, by omega, by go_num, rfl, HL.out, HB8.out⟩
                       case measure => simp [intOf]; omega
                     · by_cases hdf : d < fi
                       · have HL : Hid (LeastIs a.r q.src q.radius (pl.take (j + 1)) d) := by
                           show LeastIs _ _ _ _ _
                           rw [HTK.out]
                           have h := least_in HLE.out HPP.out HFAR.out
                           rw [if_pos ⟨rfl, hrd, .inr hdf⟩] at h
                           exact h
                         go_wp2_with (fail)
                         go_roundw
                         case rel => exact ⟨j + 1, d, by omega, by go_num, rfl, HL.out, HB8.out⟩
                         case measure => simp [intOf]; omega
                       · have HL : Hid (LeastIs a.r q.src q.radius (pl.take (j + 1)) fi) := by
                           show LeastIs _ _ _ _ _
                           rw [HTK.out]
                           have h := least_in HLE.out HPP.out HFAR.out
                           rw [if_neg (fun h => h.2.2.elim hf0 hdf)] at h
                           exact h
                         go_wp2_with (fail)
                         go_roundw
                         case rel => exact ⟨j + 1, fi, by omega, by go_num, rfl, HL.out, HB8.out⟩
                         case measure => simp [intOf]; omega)
          · obtain rfl : j = n4 := by omega
            have HLE2 : Hid (LeastIs a.r q.src q.radius places fi) := by
              have h1 := HLE.out
              rw [List.take_of_length_le (by have := HPN.out; omega)] at h1
              exact least_same (fun x => (HPM.out x).symm) h1
            have HX5 := Lib.hid (HX4.out.step HBW.out)
            have hyb := (HBW.out.block _ (Array.getElem?_eq_some_iff.1 HY4.out).1).trans HY4.out
            have HYB := Lib.hid hyb
            have HOO5 := Lib.hid (own_below HOO4.out HBW.out)
            have y0 : wr.cell? ⟨w3.heap.size, 0, none⟩ = some (.bool fb) := by rw [Lib.cell_of_heap hyb]; rfl
            have y2 : wr.cell? ⟨w3.heap.size, 2, none⟩ = some (.slice A3 n3 c3) := by rw [Lib.cell_of_heap hyb]; rfl
            clear hyb HX4 HY4 HOO4 HLE HBW
            cases fb
            · have h0 : n3 = 0 := by have := of_decide_eq_false HFB.out; omega
              subst h0
              have hfi : fi < 0 := by
                have ho : o = [] := List.length_eq_zero_iff.1 HOL.out
                refine search_none HRAN.out ?_ HLE2.out
                rcases HFI.out.1 with ⟨h, -⟩ | ⟨m', os, h, -⟩
                · exact h
                · rw [ho] at h; cases h
              go_wp2_with (fail)
              refine (sought_c wr).mono ?_
              rintro e w5 ⟨rfl, hB5⟩
              have y3 : w5.cell? ⟨w3.heap.size, 2, none⟩ = some (.slice A3 0 c3) := by
                rw [Lib.cell_of_heap ((hB5.block _ (Array.getElem?_eq_some_iff.1 HYB.out).1).trans HYB.out)]; rfl
              have HB5 := Lib.hid (HX5.out.bel.trans (hB5.mono HX5.out.bel.size))
              clear hB5 HX5 HYB y0 y2
              dsimp only
              go_wp2_with (fail)
              go_ret
              exact ⟨rfl, HB5.out⟩
            · have h0 : 0 < n3 := of_decide_eq_true HFB.out
              obtain ⟨hm, os, rfl⟩ : ∃ hm os, o = hm :: os := by
                cases o with
                | nil => have := HOL.out; simp at this; omega
                | cons x l => exact ⟨x, l, rfl⟩
              obtain ⟨hmi, hmr⟩ : hm ∈ hitsL S places ∧ ∀ x ∈ hitsL S places, hle hm x := by
                rcases HFI.out.1 with ⟨-, h⟩ | ⟨m', os', h, h1, h2⟩
                · cases h
                · cases h; exact ⟨h1, h2⟩
              obtain ⟨hv1, hfar, hdf⟩ := search_some HC.out HSRC.out HRAN.out hmi hmr HLE2.out
              subst hdf
              obtain ⟨b6, o6, hA3, hb6, hc6⟩ := (own_reads HOO5.out).2 h0
              subst hA3
              have HKS : Hid (∀ W, Below wr.heap.size wr W → (W.cell? ⟨w.heap.size, 1, none⟩ = some (.int .i64 q.src) ∧ (W.cell? ⟨w.heap.size + 1, 0, none⟩ = some (.slice a.A1 a.n1 a.c1) ∧ W.cell? ⟨w.heap.size + 1, 1, none⟩ = some (.slice a.A2 a.n2 a.c2) ∧ W.cell? ⟨w.heap.size + 1, 2, none⟩ = some (.slice a.A3 a.n3 a.c3) ∧ W.cell? ⟨w.heap.size + 1, 3, none⟩ = some (.slice a.A4 a.n4 a.c4)) ∧ W.cell? ⟨w3.heap.size, 2, none⟩ = some (.slice (some ⟨b6, o6, none⟩) n3 c3) ∧ W.cell? ⟨b6, o6, none⟩ = some (.int .i64 hm.v) ∧ W.cell? ⟨b6, o6 + 1, none⟩ = some (.int .i64 hm.d))) := fun W hB => by
                have hX := HX5.out.step hB
                refine ⟨hX.qc.2.1, hX.rc, ?_, (World.cell?_of_block (hB.block _ hb6)).trans (hc6 0 _ rfl), (World.cell?_of_block (hB.block _ hb6)).trans (hc6 1 _ rfl)⟩
                rw [Lib.cell_of_heap ((hB.block _ (Array.getElem?_eq_some_iff.1 HYB.out).1).trans HYB.out)]; rfl
              have HRUN : Hid (∀ W, Below wr.heap.size wr W → Calls Tryz.prog 7 #[.agg #[.int .i64 1, .int .i64 q.src, .int .i64 hm.v, .slice none 0 0, .int .i64 0, .int .i64 0], .agg #[.slice a.A1 a.n1 a.c1, .slice a.A2 a.n2 a.c2, .slice a.A3 a.n3 a.c3, .slice a.A4 a.n4 a.c4], .slice none 0 0, .int .i64 (kk : Int), .int .i64 300, .slice none 0 0] W fun e w' => ∃ (m : Nat), e = .returned (.tuple #[.agg #[.bool true, .int .i64 hm.d, .slice none 0 0], .int .i64 (m : Int), .int .i64 0]) ∧ Below W.heap.size W w') := fun W hB => by
                have hX := HX5.out.step hB
                refine (runFar_c (q := ⟨1, q.src, hm.v, none, 0, 0, 0, 0⟩) (a := a) (ps := []) (Ap := none) (np := 0) (cp := 0) rfl (hX.rw_ HA.out) HC.out HRN.out HSRC.out hv1 Reads.none_ (by unfold maxLen; omega) hk16).mono ?_
                rintro e w' ⟨fd, d, m, rfl, hf7, hB7⟩
                obtain ⟨rfl, rfl⟩ := far_uniq hfar hf7
                exact ⟨m, rfl, hB7⟩
              have g7 : ((n3 : Int) == 0) = false := by rw [beq_eq_false_iff_ne]; omega
              have g8 : ¬ (n3 : Int) = 0 := by omega
              have g9 : (0 : Int) < (n3 : Int) := by omega
              have HX6 := Lib.hid HX5.out.bel
              clear hc6 hb6 hfar hmi hmr hv1 HX5 HYB HOO5 HLE2 HFI HRAN HPM HPN HPO
              go_wp2_with (fail)
              clear y0 y2
              have HB2 : Hid (Below wr.heap.size wr wr.drew) := (Below.refl _ _).drew
              have HBA : Hid (Below wr.heap.size wr (wr.alloc (.cells #[.bool false, .int .i64 0, .slice none 0 0] 36)).drew) := by
                have h := below_one wr (.cells #[.bool false, .int .i64 0, .slice none 0 0] 36)
                exact h.trans ((Below.refl _ _).drew.mono h.size)
              have hya : (wr.alloc (.cells #[.bool false, .int .i64 0, .slice none 0 0] 36)).drew.heap[wr.heap.size]? = some (.cells #[.bool false, .int .i64 0, .slice none 0 0] 36 (0, 0)) := World.alloc_heap_new wr _
              have HYA := Lib.hid hya
              clear hya
              obtain ⟨k1, ⟨r0, r1, r2, r3⟩, y2, z0, z1⟩ := HKS.out wr (Below.refl _ _)
              go_region_held3 (fun W : World => (W.cell? ⟨w.heap.size, 1, none⟩ = some (.int .i64 q.src) ∧ (W.cell? ⟨w.heap.size + 1, 0, none⟩ = some (.slice a.A1 a.n1 a.c1) ∧ W.cell? ⟨w.heap.size + 1, 1, none⟩ = some (.slice a.A2 a.n2 a.c2) ∧ W.cell? ⟨w.heap.size + 1, 2, none⟩ = some (.slice a.A3 a.n3 a.c3) ∧ W.cell? ⟨w.heap.size + 1, 3, none⟩ = some (.slice a.A4 a.n4 a.c4)) ∧ W.cell? ⟨w3.heap.size, 2, none⟩ = some (.slice (some ⟨b6, o6, none⟩) n3 c3) ∧ W.cell? ⟨b6, o6, none⟩ = some (.int .i64 hm.v) ∧ W.cell? ⟨b6, o6 + 1, none⟩ = some (.int .i64 hm.d)))
                (first | exact HKS.out _ HB2.out | exact HKS.out _ HBA.out | exact HKS.out _ HB7.out | exact HKS.out _ (((HB7.out.setCell (by exact Nat.le_refl _) _).setCell (by exact Nat.le_refl _) _).setCell (by exact Nat.le_refl _) _) | exact HKS.out _ (HB7.out.alloc HB7.out.size _) | exact HKS.out _ ((((HB7.out.alloc HB7.out.size _).setCell (by exact HB7.out.size) _).setCell (by exact HB7.out.size) _).setCell (by exact HB7.out.size) _))
                ((first
                  | (go_at_call 7; refine (HRUN.out _ HB2.out).mono ?_; rintro e w7 ⟨m7, rfl, hB7⟩; have HB7 := Lib.hid (HB2.out.trans (hB7.mono HB2.out.size)); clear hB7)
                  | (go_at_call 7; refine (HRUN.out _ HBA.out).mono ?_; rintro e w7 ⟨m7, rfl, hB7⟩; have hy7 := (hB7.block _ (Array.getElem?_eq_some_iff.1 HYA.out).1).trans HYA.out; have HB7 := Lib.hid (HBA.out.trans (hB7.mono HBA.out.size)); have HY7 := Lib.hid hy7; obtain ⟨a0, a1, a2⟩ := ans_cells hy7; have e0 := Lib.frozen_of_heap hy7 0; have e1 := Lib.frozen_of_heap hy7 1; have e2 := Lib.frozen_of_heap hy7 2; clear hB7 hy7)))
              all_goals go_wp2_with (fail)
              all_goals clear k1 r0 r1 r2 r3 y2 z0 z1
              all_goals first
                | (have hy7' := HY7.out
                   clear hy7'
                   have hB8 := ((HB7.out.setCell (p := ⟨wr.heap.size, 0, none⟩) (Nat.le_refl _) (.bool true)).setCell (p := ⟨wr.heap.size, 1, none⟩) (Nat.le_refl _) (.int .i64 hm.d)).setCell (p := ⟨wr.heap.size, 2, none⟩) (Nat.le_refl _) (.slice none 0 0)
                   have hy8 : (((w7.setCell ⟨wr.heap.size, 0, none⟩ (.bool true)).setCell ⟨wr.heap.size, 1, none⟩ (.int .i64 hm.d)).setCell ⟨wr.heap.size, 2, none⟩ (.slice none 0 0)).heap[wr.heap.size]? = some (.cells #[.bool true, .int .i64 hm.d, .slice none 0 0] 36 (0, 0)) := by
                     have h := heap_setCell_same _ wr.heap.size 2 _ _ (.slice none 0 0) (heap_setCell_same _ wr.heap.size 1 _ _ (.int .i64 hm.d) (heap_setCell_same w7 wr.heap.size 0 _ _ (.bool true) HY7.out))
                     simpa using h
                   generalize (((w7.setCell ⟨wr.heap.size, 0, none⟩ (.bool true)).setCell ⟨wr.heap.size, 1, none⟩ (.int .i64 hm.d)).setCell ⟨wr.heap.size, 2, none⟩ (.slice none 0 0)) = w8 at hB8 hy8 ⊢
                   have HB8 := Lib.hid hB8
                   have HY8 := Lib.hid hy8
                   have HD8 : Hid (Below w8.heap.size w8 w8.drew) := (Below.refl _ _).drew
                   have HK27 : Hid (∀ W, Below w8.heap.size w8 W → (W.cell? ⟨wr.heap.size, 0, none⟩ = some (.bool true) ∧ W.cell? ⟨wr.heap.size, 1, none⟩ = some (.int .i64 hm.d) ∧ W.cell? ⟨w3.heap.size, 2, none⟩ = some (.slice (some ⟨b6, o6, none⟩) n3 c3) ∧ W.cell? ⟨b6, o6 + 1, none⟩ = some (.int .i64 hm.d))) := fun W hB => by
                     have h9 := (hB.block _ (Array.getElem?_eq_some_iff.1 HY8.out).1).trans HY8.out
                     obtain ⟨-, -, i2, -, i4⟩ := HKS.out W (HB8.out.trans (hB.mono HB8.out.size))
                     exact ⟨by rw [Lib.cell_of_heap h9]; rfl, by rw [Lib.cell_of_heap h9]; rfl, i2, i4⟩
                   clear hB8 hy8
                   go_region_held3 (fun W : World => (W.cell? ⟨wr.heap.size, 0, none⟩ = some (.bool true) ∧ W.cell? ⟨wr.heap.size, 1, none⟩ = some (.int .i64 hm.d) ∧ W.cell? ⟨w3.heap.size, 2, none⟩ = some (.slice (some ⟨b6, o6, none⟩) n3 c3) ∧ W.cell? ⟨b6, o6 + 1, none⟩ = some (.int .i64 hm.d)))
                     (first | exact HK27.out _ HD8.out | exact HK27.out _ HB9.out)
                     ((first
                       | (go_at_call 6; refine (sought_c _).mono ?_; rintro e w9 ⟨rfl, hB9⟩; have HB9 := Lib.hid (HD8.out.trans (hB9.mono HD8.out.size)); clear hB9)))
                   all_goals
                     go_wp2_with (fail)
                     go_ret
                     exact ⟨rfl, HX6.out.trans ((HB8.out.trans (HB9.out.mono HB8.out.size)).mono HX6.out.size)⟩)
                | (
                   have hB8 := HB7.out.trans ((below_one w7 (.cells #[.bool true, .int .i64 hm.d, .slice none 0 0] 36)).mono HB7.out.size)
                   have hy8 : (w7.alloc (.cells #[.bool true, .int .i64 hm.d, .slice none 0 0] 36)).heap[w7.heap.size]? = some (.cells #[.bool true, .int .i64 hm.d, .slice none 0 0] 36 (0, 0)) := World.alloc_heap_new w7 _
                   generalize w7.alloc (.cells #[.bool true, .int .i64 hm.d, .slice none 0 0] 36) = w8 at hB8 hy8 ⊢
                   have HB8 := Lib.hid hB8
                   have HY8 := Lib.hid hy8
                   have HD8 : Hid (Below w8.heap.size w8 w8.drew) := (Below.refl _ _).drew
                   have HK27 : Hid (∀ W, Below w8.heap.size w8 W → (W.cell? ⟨w7.heap.size, 0, none⟩ = some (.bool true) ∧ W.cell? ⟨w7.heap.size, 1, none⟩ = some (.int .i64 hm.d) ∧ W.cell? ⟨w3.heap.size, 2, none⟩ = some (.slice (some ⟨b6, o6, none⟩) n3 c3) ∧ W.cell? ⟨b6, o6 + 1, none⟩ = some (.int .i64 hm.d))) := fun W hB => by
                     have h9 := (hB.block _ (Array.getElem?_eq_some_iff.1 HY8.out).1).trans HY8.out
                     obtain ⟨-, -, i2, -, i4⟩ := HKS.out W (HB8.out.trans (hB.mono HB8.out.size))
                     exact ⟨by rw [Lib.cell_of_heap h9]; rfl, by rw [Lib.cell_of_heap h9]; rfl, i2, i4⟩
                   clear hB8 hy8
                   go_region_held3 (fun W : World => (W.cell? ⟨w7.heap.size, 0, none⟩ = some (.bool true) ∧ W.cell? ⟨w7.heap.size, 1, none⟩ = some (.int .i64 hm.d) ∧ W.cell? ⟨w3.heap.size, 2, none⟩ = some (.slice (some ⟨b6, o6, none⟩) n3 c3) ∧ W.cell? ⟨b6, o6 + 1, none⟩ = some (.int .i64 hm.d)))
                     (first | exact HK27.out _ HD8.out | exact HK27.out _ HB9.out)
                     ((first
                       | (go_at_call 6; refine (sought_c _).mono ?_; rintro e w9 ⟨rfl, hB9⟩; have HB9 := Lib.hid (HD8.out.trans (hB9.mono HD8.out.size)); clear hB9)))
                   all_goals
                     go_wp2_with (fail)
                     go_ret
                     exact ⟨rfl, HX6.out.trans ((HB8.out.trans (HB9.out.mono HB8.out.size)).mono HX6.out.size)⟩)
end Go.Proofs.YtpdnipabaimofaaGreat
