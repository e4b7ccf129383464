/-
  MailOnce: the walk.
-/
import Derived.Test.YtgphijfcmegdaaaMails
import Derived.Test.YtgphijfcmegdaaaMailPut
namespace Go.Proofs.Ytgphijfcmegdaaa
open Go.RowKit

theorem mailOnce_far (A : Option Addr) (n c : Nat) (w : World) (hn : n ≤ maxLen) (h : 100 < n) :
    Calls Try.prog 6 #[.slice A n c] w fun e w' => e = .returned (.bool true) ∧ Below w.heap.size w w' := by
  go_enter Try.func6, Try.ntmps6
  go_wp2_with (fail)
  go_ret
  exact ⟨rfl, Below.refl _ _⟩

theorem combine_len' (l : List Msg) : (combine l).length ≤ l.length := by
  refine snoc_ind (p := fun l => (combine l).length ≤ l.length) (by simp [combine]) (fun l x ih => ?_) l
  rw [combine_snoc, List.length_append]
  have := putM_len (combine l) x
  simp
  omega

set_option maxRecDepth 100000 in
set_option maxHeartbeats 8000000 in
theorem mailOnce_c (A : Option Addr) (n c : Nat) (ms : List Msg) (w : World) (hr : Reads w w.heap.size 4 A n (mv ms)) (hn : n ≤ 100) (hf : ∀ m ∈ ms, m.fits) :
    Calls Try.prog 6 #[.slice A n c] w fun e w' => e = .returned (.bool true) ∧ Below w.heap.size w w' := by
  have hl := hr.mail_len
  have HL := Lib.hid hl
  clear hl
  have hml : n ≤ maxLen := by unfold maxLen; omega
  go_enter Try.func6, Try.ntmps6
  go_wp2_with (fail)
  refine (combine_c A n c ms _ hr (by omega) hf).mono ?_
  rintro e w1 ⟨A3, n3, c3, rfl, hl3, ho, hB⟩
  have hn3 : n3 ≤ n := by rw [← hl3, ← HL.out]; exact combine_len' _
  have H3 := Lib.hid hl3
  have hrise : Hid ((combine ms).Pairwise kless) := (combine_comb ms).1
  have hhas : Hid (∀ x ∈ ms, ∃ y ∈ combine ms, kEq y x ∧ y.d ≤ x.d) := fun x hx => by
    obtain ⟨y, a, b, c⟩ := (combine_comb ms).has hx
    exact ⟨y, a, b, c x hx (kEq_refl x)⟩
  have hmem : Hid (∀ y ∈ combine ms, y ∈ ms) := fun y hy => mem_combine hy
  clear hl3
  go_wp2_with (fail)
  go_loopw [4] (fun i wr => ∃ (k : Nat), k ≤ n3 ∧ i = .int .i64 ((k : Int) + 1) ∧ wr.ownsRow w.heap.size 31 4 (.slice A3 n3 c3) n3 (mv (combine ms)) ∧ Below w.heap.size w wr) (fun i _ => n3 - (intOf i).toNat)
  case atStart => exact ⟨0, Nat.zero_le _, rfl, ho, hB⟩
  case round =>
    clear ho hB
    obtain ⟨k, hk, rfl, ho, hB⟩ := hrel
    by_cases hlt : k + 1 < n3
    · obtain ⟨b, o, x, e1, hx, c0, c1, c2, c3'⟩ := (own_reads ho).mail_at (k := k) (by omega)
      obtain ⟨b', o', y, e2, hy, d0, d1, d2, d3⟩ := (own_reads ho).mail_at (k := k + 1) (by omega)
      subst e1
      cases e2
      have hkk : (k : Int) + 1 - 1 = (k : Int) := by omega
      have hless : kless x y := by
        have h1 := hrise.out
        rw [List.pairwise_iff_getElem] at h1
        obtain ⟨i1, i2⟩ := List.getElem?_eq_some_iff.1 hx.out
        obtain ⟨j1, j2⟩ := List.getElem?_eq_some_iff.1 hy.out
        have := h1 k (k + 1) i1 j1 (by omega)
        rw [i2, j2] at this
        exact this
      have HS := Lib.hid hless
      clear hless
      have f1 : (0 : Int) ≤ (k : Int) := by omega
      have f2 : (k : Int) < (n3 : Int) := by omega
      have f3 : (0 : Int) ≤ (k : Int) + 1 := by omega
      have f4 : (k : Int) + 1 < (n3 : Int) := by omega
      have f5 : IntKind.i64.wrap (k : Int) = (k : Int) := IntWalk.i64_in _ (by omega)
      have f6 : ((k : Int) + 1).toNat = k + 1 := by omega
      go_wp2_with (fail)
      refine wp_region_still_tail 11 (by kernel_rfl) (by kernel_rfl) ?_
      simp only [List.take_succ_cons, List.take_zero, List.drop_succ_cons, List.drop_zero]
      obtain ⟨wd, hwd⟩ : ∃ wd, wd = wr.drew := ⟨_, rfl⟩
      change wr.drew.cell? _ = _ at c0 c1 c2 d0 d1 d2
      have hBd : Below w.heap.size w wr.drew := hB.drew
      have hod : wr.drew.ownsRow w.heap.size 31 4 (.slice (some ⟨b, o, none⟩) n3 c3) n3 (mv (combine ms)) := ho.drew
      rw [← hwd] at c0 c1 c2 d0 d1 d2 hBd hod
      change wpStill _ _ wr.drew (fun a' => wpList _ _ _ _ a' wr.drew) _ _
      rw [← hwd]
      clear hwd hB ho
      repeat still_step
      refine wpStill_nil ?_
      clear f1 f2 f3 f4 f5 f6
      go_wp2_with (fail)
      refine (less14_c x y _).mono ?_
      rintro e w3 ⟨rfl, hB3⟩
      have ho3 := own_below hod hB3
      have hBB := hBd.trans (hB3.mono hBd.size)
      rw [decide_eq_true HS.out]
      clear hod hB3 hBd c0 c1 c2 d0 d1 d2
      go_wp2_with (fail)
      go_roundw
      case rel => exact ⟨k + 1, by omega, by go_num, ho3, hBB⟩
      case measure => simp [intOf]; omega
    · go_wp2_with (fail)
      go_loopw [5] (fun i wr => ∃ (j : Nat), j ≤ n ∧ i = .int .i64 j ∧ wr.ownsRow w.heap.size 31 4 (.slice A3 n3 c3) n3 (mv (combine ms)) ∧ Below w.heap.size w wr) (fun i _ => n - (intOf i).toNat)
      case atStart => exact ⟨0, Nat.zero_le _, rfl, ho, hB⟩
      case round =>
        clear ho hB hlt hk
        obtain ⟨j, hj, rfl, ho, hB⟩ := hrel
        by_cases hlt : j < n
        · go_wp2_with (fail)
          obtain ⟨x, hx⟩ : ∃ x, Hid (ms[j]? = some x) := ⟨_, List.getElem?_eq_getElem (by rw [HL.out]; exact hlt)⟩
          go_loopw [6, 7] (fun b i wr => ∃ (k : Nat) (bb : Bool), k ≤ n3 ∧ i = .int .i64 k ∧ b = .bool bb ∧ Hid (bb = false → ∀ y ∈ (combine ms).take k, ¬ (kEq y x ∧ y.d ≤ x.d)) ∧ wr.ownsRow w.heap.size 31 4 (.slice A3 n3 c3) n3 (mv (combine ms)) ∧ Below w.heap.size w wr) (fun _ i _ => n3 - (intOf i).toNat)
          case atStart => exact ⟨0, false, Nat.zero_le _, rfl, rfl, fun _ y hy => by simp at hy, ho, hB⟩
          case round =>
            clear ho hB
            obtain ⟨k, bb, hk, rfl, rfl, hno, ho, hB⟩ := hrel
            by_cases hlk : k < n3
            · obtain ⟨b, o, y, e1, hy, c0, c1, c2, c3'⟩ := (own_reads ho).mail_at (k := k) hlk
              obtain ⟨b', o', x', e2, hx', d0, d1, d2, d3⟩ := (hr.below hB).mail_at (k := j) hlt
              obtain rfl : x = x' := by have := hx.out; rw [hx'.out] at this; exact (Option.some.inj this).symm
              subst e1
              subst e2
              clear hx'
              have hstep : Hid (¬ (kEq y x ∧ y.d ≤ x.d) → bb = false → ∀ z ∈ (combine ms).take (k + 1), ¬ (kEq z x ∧ z.d ≤ x.d)) := fun h1 h2 z hz => by
                rw [List.take_add_one, hy.out] at hz
                rcases List.mem_append.1 hz with hz | hz
                · exact hno.out h2 z hz
                · simp at hz; subst hz; exact h1
              cases bb with
              | true =>
                go_wp2_with (fail)
                go_quiet (fail)
                go_wp2_with (fail)
                go_roundw
                case rel => exact ⟨k + 1, true, by omega, by go_num, rfl, (fun h => absurd h (by simp)), ho, below_drewN hB _⟩
                case measure => simp [intOf]; omega
              | false =>
                by_cases hkey : kEq y x
                · obtain ⟨e1, e2, e3⟩ := id hkey
                  rw [e1] at c0
                  rw [e2] at c1
                  rw [e3] at c2
                  have HK := Lib.hid hkey
                  clear e1 e2 e3 hkey
                  by_cases hd : y.d ≤ x.d
                  · go_wp2_with (fail)
                    go_quiet (fail)
                    go_wp2_with (fail)
                    go_roundw
                    case rel => exact ⟨k + 1, true, by omega, by go_num, rfl, (fun h => absurd h (by simp)), ho, below_drewN hB _⟩
                    case measure => simp [intOf]; omega
                  · have hs2 : Hid (∀ z ∈ (combine ms).take (k + 1), ¬ (kEq z x ∧ z.d ≤ x.d)) := hstep.out (fun h => hd h.2) rfl
                    have hd2 : decide (y.d ≤ x.d) = false := decide_eq_false hd
                    clear hd hstep
                    go_wp2_with (fail)
                    go_quiet (fail)
                    go_wp2_with (fail)
                    go_roundw
                    case rel => exact ⟨k + 1, false, by omega, by go_num, rfl, fun _ => hs2.out, ho, below_drewN hB _⟩
                    case measure => simp [intOf]; omega
                · have hrun := run_eql_key y x hkey
                  have HK := Lib.hid hkey
                  have hs2 : Hid (∀ z ∈ (combine ms).take (k + 1), ¬ (kEq z x ∧ z.d ≤ x.d)) := hstep.out (fun h => hkey h.1) rfl
                  clear hkey hstep
                  go_wp2_with (fail)
                  go_quiet (fail)
                  go_wp2_with (fail)
                  go_roundw
                  case rel => exact ⟨k + 1, false, by omega, by go_num, rfl, fun _ => hs2.out, ho, below_drewN hB _⟩
                  case measure => simp [intOf]; omega
            · obtain rfl : k = n3 := by omega
              cases bb with
              | true =>
                go_wp2_with (fail)
                go_roundw
                case rel => exact ⟨j + 1, by omega, by go_num, ho, hB⟩
                case measure => simp [intOf]; omega
              | false =>
                exfalso
                obtain ⟨y, hy, hyx⟩ := hhas.out x (List.mem_of_getElem? hx.out)
                exact hno.out rfl y (by rw [List.take_of_length_le (by rw [H3.out]; exact Nat.le_refl _)]; exact hy) hyx
        · go_wp2_with (fail)
          go_loopw [8] (fun i wr => ∃ (j : Nat), j ≤ n3 ∧ i = .int .i64 j ∧ wr.ownsRow w.heap.size 31 4 (.slice A3 n3 c3) n3 (mv (combine ms)) ∧ Below w.heap.size w wr) (fun i _ => n3 - (intOf i).toNat)
          case atStart => exact ⟨0, Nat.zero_le _, rfl, ho, hB⟩
          case round =>
            clear ho hB hlt hj
            obtain ⟨j, hj, rfl, ho, hB⟩ := hrel
            by_cases hlt : j < n3
            · go_wp2_with (fail)
              obtain ⟨x, hx⟩ : ∃ x, Hid ((combine ms)[j]? = some x) := ⟨_, List.getElem?_eq_getElem (by rw [H3.out]; exact hlt)⟩
              go_loopw [9, 10] (fun b i wr => ∃ (k : Nat) (bb : Bool), k ≤ n ∧ i = .int .i64 k ∧ b = .bool bb ∧ Hid (bb = false → ∀ y ∈ ms.take k, x ≠ y) ∧ wr.ownsRow w.heap.size 31 4 (.slice A3 n3 c3) n3 (mv (combine ms)) ∧ Below w.heap.size w wr) (fun _ i _ => n - (intOf i).toNat)
              case atStart => exact ⟨0, false, Nat.zero_le _, rfl, rfl, fun _ y hy => by simp at hy, ho, hB⟩
              case round =>
                clear ho hB
                obtain ⟨k, bb, hk, rfl, rfl, hno, ho, hB⟩ := hrel
                by_cases hlk : k < n
                · obtain ⟨b', o', x', e2, hx', d0, d1, d2, d3⟩ := (own_reads ho).mail_at (k := j) hlt
                  obtain ⟨b, o, y, e1, hy, c0, c1, c2, c3'⟩ := (hr.below hB).mail_at (k := k) hlk
                  obtain rfl : x = x' := by have := hx.out; rw [hx'.out] at this; exact (Option.some.inj this).symm
                  subst e1
                  subst e2
                  clear hx'
                  have hstep : Hid (x ≠ y → bb = false → ∀ z ∈ ms.take (k + 1), x ≠ z) := fun h1 h2 z hz => by
                    rw [List.take_add_one, hy.out] at hz
                    rcases List.mem_append.1 hz with hz | hz
                    · exact hno.out h2 z hz
                    · simp at hz; subst hz; exact h1
                  cases bb with
                  | true =>
                    go_wp2_with (fail)
                    go_quiet (fail)
                    go_wp2_with (fail)
                    go_roundw
                    case rel => exact ⟨k + 1, true, by omega, by go_num, rfl, (fun h => absurd h (by simp)), ho, below_drewN hB _⟩
                    case measure => simp [intOf]; omega
                  | false =>
                    by_cases hxy : x = y
                    · subst hxy
                      clear hstep
                      go_wp2_with (fail)
                      go_quiet (fail)
                      go_wp2_with (fail)
                      go_roundw
                      case rel => exact ⟨k + 1, true, by omega, by go_num, rfl, (fun h => absurd h (by simp)), ho, below_drewN hB _⟩
                      case measure => simp [intOf]; omega
                    · have hrun := run_eql_mail x y hxy
                      have hs2 : Hid (∀ z ∈ ms.take (k + 1), x ≠ z) := hstep.out hxy rfl
                      clear hxy hstep
                      go_wp2_with (fail)
                      go_quiet (fail)
                      go_wp2_with (fail)
                      go_roundw
                      case rel => exact ⟨k + 1, false, by omega, by go_num, rfl, fun _ => hs2.out, ho, below_drewN hB _⟩
                      case measure => simp [intOf]; omega
                · obtain rfl : k = n := by omega
                  cases bb with
                  | true =>
                    go_wp2_with (fail)
                    go_roundw
                    case rel => exact ⟨j + 1, by omega, by go_num, ho, hB⟩
                    case measure => simp [intOf]; omega
                  | false =>
                    exfalso
                    exact hno.out rfl x (by rw [List.take_of_length_le (by rw [HL.out]; exact Nat.le_refl _)]; exact hmem.out x (List.mem_of_getElem? hx.out)) rfl
            · have hm3 : n3 ≤ maxLen := by unfold maxLen; omega
              clear hr
              go_wp2_with (fail)
              refine (mails_c _).mono ?_
              rintro e w6 ⟨rfl, hB6⟩
              have ho6 := own_below ho hB6
              have hb := hB.trans (hB6.mono hB.size)
              clear ho hB hB6
              go_wp2_with (fail)
              refine (combine_c A3 n3 c3 (combine ms) _ (own_reads ho6) (by omega) (fun m hm => hf m (mem_combine hm))).mono ?_
              rintro e w7 ⟨A7, n7, c7, rfl, hl7, ho7, hB7⟩
              rw [combine_twice] at hl7 ho7
              obtain rfl : n7 = n3 := by rw [← hl7, H3.out]
              have ho6 := own_below ho6 hB7
              have hB := hb.trans (hB7.mono hb.size)
              clear hl7 hb hB7
              go_wp2_with (fail)
              refine (same16_c A7 A3 n7 n7 _ _ _ _ _ (own_reads ho7) (own_reads ho6) hm3 hm3).mono ?_
              rintro e w8 ⟨rfl, hB8⟩
              have hT : decide (combine ms = combine ms) = true := decide_eq_true rfl
              rw [hT]
              have hb := hB.trans (hB8.mono hB.size)
              go_wp2_with (fail)
              go_ret
              exact ⟨rfl, hb⟩
end Go.Proofs.Ytgphijfcmegdaaa
