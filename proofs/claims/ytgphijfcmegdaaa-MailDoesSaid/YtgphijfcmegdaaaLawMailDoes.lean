/-
  MailDoes: the walk.
-/
import Derived.Test.YtgphijfcmegdaaaMails
import Derived.Test.YtgphijfcmegdaaaMailPut
import Derived.Test.YtgphijfcmegdaaaMailSplit16
namespace Go.Proofs.Ytgphijfcmegdaaa
open Go.RowKit

instance (k : Int) (xs : List Msg) : Decidable (splitOk k xs) := by unfold splitOk; infer_instance
def splitR (xs : List Msg) (k : Int) : List (List Msg) := if splitOk k xs then parted xs k.toNat else []
def splitErr (xs : List Msg) (k : Int) : Int := if splitOk k xs then 0 else 1

theorem splitR_len (xs : List Msg) (k : Int) : (splitR xs k).length ≤ 16 := by
  unfold splitR
  split
  · rename_i h
    rw [parted_len]
    have := h.1.2
    omega
  · simp

theorem splitT (A : Option Addr) (n c : Nat) (k : Int) (ms : List Msg) (w : World) (hr : Reads w w.heap.size 4 A n (mv ms)) (hn : n ≤ 100000) :
    Calls Try.prog 17 #[.slice A n c, .int .i64 k] w fun e w' =>
      ∃ A' q c' vs, e = .returned (.tuple #[.slice A' q c', .int .i64 (splitErr ms k)]) ∧ (splitR ms k).length = q ∧ w'.ownsRow w.heap.size 22 1 (.slice A' q c') q vs ∧ RowsOwn w' w.heap.size 31 4 vs (mvs (splitR ms k)) ∧ Below w.heap.size w w' := by
  unfold splitR splitErr
  by_cases h : splitOk k ms
  · rw [if_pos h, if_pos h]
    obtain ⟨⟨h1, h2⟩, h3⟩ := h
    obtain ⟨q, rfl⟩ : ∃ q : Nat, k = q := ⟨k.toNat, by omega⟩
    refine (split_c A n c q ms w (by omega) (by omega) hr hn h3).mono ?_
    rintro e w' ⟨A', c', vs, rfl, ho, hrs, hB⟩
    exact ⟨A', q, c', vs, rfl, by rw [parted_len]; rfl, ho, hrs, hB⟩
  · rw [if_neg h, if_neg h]
    refine (split_no A n c k ms w hr (by unfold maxLen; omega) h).mono ?_
    rintro e w' ⟨rfl, hB⟩
    exact ⟨none, 0, 0, [], rfl, rfl, own_nil, rowsOwn_nil _ _ _ _, hB⟩
theorem split16T (A : Option Addr) (n c : Nat) (k : Int) (ms : List Msg) (w : World) (hr : Reads w w.heap.size 4 A n (mv ms)) (hn : n ≤ 100000) :
    Calls Try.prog 18 #[.slice A n c, .int .i64 k] w fun e w' =>
      ∃ A' q c' vs, e = .returned (.tuple #[.slice A' q c', .int .i64 (splitErr ms k)]) ∧ (splitR ms k).length = q ∧ w'.ownsRow w.heap.size 22 1 (.slice A' q c') q vs ∧ RowsOwn w' w.heap.size 31 4 vs (mvs (splitR ms k)) ∧ Below w.heap.size w w' := by
  unfold splitR splitErr
  by_cases h : splitOk k ms
  · rw [if_pos h, if_pos h]
    obtain ⟨⟨h1, h2⟩, h3⟩ := h
    obtain ⟨q, rfl⟩ : ∃ q : Nat, k = q := ⟨k.toNat, by omega⟩
    refine (split16_c A n c q ms w (by omega) (by omega) hr hn h3).mono ?_
    rintro e w' ⟨A', c', vs, rfl, ho, hrs, hB⟩
    exact ⟨A', q, c', vs, rfl, by rw [parted_len]; rfl, ho, hrs, hB⟩
  · rw [if_neg h, if_neg h]
    refine (split16_no A n c k ms w hr (by unfold maxLen; omega) h).mono ?_
    rintro e w' ⟨rfl, hB⟩
    exact ⟨none, 0, 0, [], rfl, rfl, own_nil, rowsOwn_nil _ _ _ _, hB⟩

theorem combine_len2 (l : List Msg) : (combine l).length ≤ l.length := by
  refine snoc_ind (p := fun l => (combine l).length ≤ l.length) (by simp [combine]) (fun l x ih => ?_) l
  rw [combine_snoc, List.length_append]
  have := putM_len (combine l) x
  simp
  omega

theorem mailDoes_far (A : Option Addr) (n c : Nat) (k : Int) (w : World) (hn : n ≤ maxLen) (h : 60 < n ∧ n ≤ 1000 ∨ 1100 < n) :
    Calls Try.prog 4 #[.slice A n c, .int .i64 k] w fun e w' => e = .returned (.bool true) ∧ Below w.heap.size w w' := by
  rcases h with ⟨h1, h2⟩ | h1
  · go_enter Try.func4, Try.ntmps4
    go_wp2_with (fail)
    go_ret
    exact ⟨rfl, Below.refl _ _⟩
  · have h2 : ¬ n ≤ 1000 := by omega
    have h3 : 60 < n := by omega
    go_enter Try.func4, Try.ntmps4
    go_wp2_with (fail)
    go_ret
    exact ⟨rfl, Below.refl _ _⟩

set_option maxRecDepth 100000 in
set_option maxHeartbeats 8000000 in
theorem mailDoes_c (A : Option Addr) (n c : Nat) (k : Int) (ms : List Msg) (w : World) (hr : Reads w w.heap.size 4 A n (mv ms)) (hn : n ≤ 1100) (hn2 : ¬ (60 < n ∧ n ≤ 1000)) (hf : ∀ m ∈ ms, m.fits) :
    Calls Try.prog 4 #[.slice A n c, .int .i64 k] w fun e w' => e = .returned (.bool true) ∧ Below w.heap.size w w' := by
  have hl := hr.mail_len
  have HL := Lib.hid hl
  clear hl
  have hml : n ≤ maxLen := by unfold maxLen; omega
  by_cases hcase : n ≤ 60
  · have d1 : ¬ 60 < n := by omega
    clear hn2
    go_enter Try.func4, Try.ntmps4
    go_wp2_with (fail)
    refine (own16_c A n c ms _ hr (by omega)).mono ?_
    rintro e w1 ⟨A5, c5, rfl, ho5, hB⟩
    go_wp2_with (fail)
    refine (combine_c A n c ms _ ((hr.below hB).more hB.size) (by omega) hf).mono ?_
    rintro e w2 ⟨A6, n6, c6, rfl, hl6, ho6, hB2⟩
    have hn6 : n6 ≤ n := by rw [← hl6, ← HL.out]; exact combine_len2 _
    have H6 := Lib.hid hl6
    have hap : Hid (Apart A5 A6) := apart_of_lt ho5 ho6 (Nat.le_refl _)
    have ho5 := own_below ho5 hB2
    have ho6 := own_more (base := w.heap.size) ho6 hB.size
    have hb := hB.trans (hB2.mono hB.size)
    clear hl6 hB hB2
    go_wp2_with (fail)
    refine (combine16_c A5 n c5 ms _ (own_reads ho5) (by omega)).mono ?_
    rintro e w3 ⟨A7, n7, c7, rfl, hl7, ho7, hB3⟩
    obtain rfl : n7 = n6 := by rw [← hl7, H6.out]
    have ho5 := own_below ho5 hB3
    have ho6 := own_below ho6 hB3
    have ho7 := own_more (base := w.heap.size) ho7 hb.size
    have hB := hb.trans (hB3.mono hb.size)
    clear hl7 hb hB3
    go_wp2_with (fail)
    refine (splitT A n c k ms _ ((hr.below hB).more hB.size) (by omega)).mono ?_
    rintro e w4 ⟨A8, q, c8, vs8, rfl, hq, ho8, hr8, hB4⟩
    have hq16 : q ≤ 16 := by rw [← hq]; exact splitR_len _ _
    have HQ := Lib.hid hq
    have ho5 := own_below ho5 hB4
    have ho6 := own_below ho6 hB4
    have ho7 := own_below ho7 hB4
    have ho8 := own_more (base := w.heap.size) ho8 hB.size
    have hr8 := hr8.more hB.size
    have hb := hB.trans (hB4.mono hB.size)
    clear hq hB hB4
    go_wp2_with (fail)
    refine (split16T A5 n c5 k ms _ (own_reads ho5) (by omega)).mono ?_
    rintro e w5 ⟨A10, q2, c10, vs10, rfl, hq2, ho10, hr10, hB5⟩
    obtain rfl : q2 = q := by rw [← hq2, HQ.out]
    have ho5 := own_below ho5 hB5
    have ho6 := own_below ho6 hB5
    have ho7 := own_below ho7 hB5
    have ho8 := own_below ho8 hB5
    have hr8 := hr8.below hB5
    have ho10 := own_more (base := w.heap.size) ho10 hb.size
    have hr10 := hr10.more hb.size
    have hB := hb.trans (hB5.mono hb.size)
    clear hq2 hb hB5
    go_wp2_with (fail)
    refine (print_c A n c ms _ ((hr.below hB).more hB.size) hml).mono ?_
    rintro e w6 ⟨rfl, hB6⟩
    have ho5 := own_below ho5 hB6
    have ho6 := own_below ho6 hB6
    have ho7 := own_below ho7 hB6
    have ho8 := own_below ho8 hB6
    have hr8 := hr8.below hB6
    have ho10 := own_below ho10 hB6
    have hr10 := hr10.below hB6
    have hb := hB.trans (hB6.mono hB.size)
    clear hB hB6
    go_wp2_with (fail)
    refine (print16_c A5 n c5 ms _ (own_reads ho5) hml).mono ?_
    rintro e w7 ⟨rfl, hB7⟩
    have ho5 := own_below ho5 hB7
    have ho6 := own_below ho6 hB7
    have ho7 := own_below ho7 hB7
    have ho8 := own_below ho8 hB7
    have hr8 := hr8.below hB7
    have ho10 := own_below ho10 hB7
    have hr10 := hr10.below hB7
    have hB := hb.trans (hB7.mono hb.size)
    have hm6 : n7 ≤ maxLen := by unfold maxLen; omega
    have hmq : q2 ≤ maxLen := by unfold maxLen; omega
    clear hb hB7
    go_wp2_with (fail)
    refine (same16_c A6 A7 n7 n7 _ _ _ _ _ (own_reads ho6) (own_reads ho7) hm6 hm6).mono ?_
    rintro e w8 ⟨rfl, hB8⟩
    have hT : decide (combine ms = combine ms) = true := decide_eq_true rfl
    rw [hT]
    have ho5 := own_below ho5 hB8
    have ho6 := own_below ho6 hB8
    have ho8 := own_below ho8 hB8
    have hr8 := hr8.below hB8
    have ho10 := own_below ho10 hB8
    have hr10 := hr10.below hB8
    have hb := hB.trans (hB8.mono hB.size)
    clear hT hB hB8 ho7
    go_wp2_with (fail)
    refine (sameRows_c A8 A10 q2 q2 c8 c10 vs8 vs10 (splitR ms k) (splitR ms k) _ (own_reads ho8) (own_reads ho10) hr8.reads hr10.reads hmq hmq).mono ?_
    rintro e w9 ⟨rfl, hB9⟩
    have hT : decide (splitR ms k = splitR ms k) = true := decide_eq_true rfl
    rw [hT]
    have ho5 := own_below ho5 hB9
    have ho6 := own_below ho6 hB9
    have hB := hb.trans (hB9.mono hb.size)
    clear hT hb hB9 ho8 ho10 hr8 hr10
    go_wp2_with (fail)
    refine (check_c A n c ms _ ((hr.below hB).more hB.size) hml).mono ?_
    rintro e w10 ⟨rfl, hB10⟩
    have ho5 := own_below ho5 hB10
    have ho6 := own_below ho6 hB10
    have hb := hB.trans (hB10.mono hB.size)
    clear hB hB10
    go_wp2_with (fail)
    refine (check16_c A5 n c5 ms _ (own_reads ho5) hml).mono ?_
    rintro e w11 ⟨rfl, hB11⟩
    have ho5 := own_below ho5 hB11
    have ho6 := own_below ho6 hB11
    have hB := hb.trans (hB11.mono hb.size)
    clear hb hB11
    go_wp2_with (fail)
    go_loopw [17] (fun i wr => ∃ (j : Nat) (xs : List Value), j ≤ n7 ∧ i = .int .i64 j ∧ wr.ownsRow w.heap.size 31 4 (.slice A6 n7 c6) n7 xs ∧ wr.ownsRow w.heap.size 31 4 (.slice A5 n c5) n (mv ms) ∧ Below w.heap.size w wr) (fun i _ => n7 - (intOf i).toNat)
    case atStart => exact ⟨0, _, Nat.zero_le _, rfl, ho6, ho5, hB⟩
    case round =>
      clear ho6 ho5 hB
      obtain ⟨j, xs, hj, rfl, ho6, ho5, hB⟩ := hrel
      by_cases hlt : j < n7
      · obtain ⟨g, cap, hv, hgb, hgl⟩ := ho6.form (by omega)
        obtain rfl : A6 = some ⟨g, 0, none⟩ := by injection hv
        clear hv
        have hfr := ho6.frozenAt (j * 4 + 3)
        have hcell : ∃ v, wr.cell? ⟨g, j * 4 + 3, none⟩ = some v := by
          rw [ho6.cellAt _ (by omega)]
          exact ⟨_, List.getElem?_eq_getElem (by have := ho6.1; omega)⟩
        obtain ⟨v, hcell⟩ := hcell
        have hst := ho6.stored (j * 4 + 3) (.int .i64 (-7))
        have ho5' := own_only ho5 hst.2 (fun a ha e => hap.out a _ ha rfl (by injection e))
        have hB' := hB.grown hst.2 hB.size (fun h e => by injection e; omega)
        have HST := Lib.hid hst.1
        have HO5 := Lib.hid ho5'
        have HB := Lib.hid hB'
        clear hst ho5' hB' ho6 ho5 hB
        go_wp2_with (fail)
        go_roundw
        case rel => exact ⟨j + 1, _, by omega, by go_num, HST.out, HO5.out, HB.out⟩
        case measure => simp [intOf]; omega
      · clear ho6
        go_wp2_with (fail)
        refine (mails_c _).mono ?_
        rintro e w12 ⟨rfl, hB12⟩
        have ho5 := own_below ho5 hB12
        have hb := hB.trans (hB12.mono hB.size)
        clear hB hB12
        go_wp2_with (fail)
        refine (same16_c A A5 n n c c5 ms ms _ ((hr.below hb).more hb.size) (own_reads ho5) hml hml).mono ?_
        rintro e w13 ⟨rfl, hB13⟩
        have hT : decide (ms = ms) = true := decide_eq_true rfl
        rw [hT]
        have hB := hb.trans (hB13.mono hb.size)
        go_wp2_with (fail)
        go_ret
        exact ⟨rfl, hB⟩
  · have d1 : 1000 < n := by omega
    have d2 : 60 < n := by omega
    clear hn2
    go_enter Try.func4, Try.ntmps4
    go_wp2_with (fail)
    refine (own16_c A n c ms _ hr (by omega)).mono ?_
    rintro e w1 ⟨A5, c5, rfl, ho5, hB⟩
    go_wp2_with (fail)
    refine (combine_c A n c ms _ ((hr.below hB).more hB.size) (by omega) hf).mono ?_
    rintro e w2 ⟨A6, n6, c6, rfl, hl6, ho6, hB2⟩
    have hn6 : n6 ≤ n := by rw [← hl6, ← HL.out]; exact combine_len2 _
    have H6 := Lib.hid hl6
    have hap : Hid (Apart A5 A6) := apart_of_lt ho5 ho6 (Nat.le_refl _)
    have ho5 := own_below ho5 hB2
    have ho6 := own_more (base := w.heap.size) ho6 hB.size
    have hb := hB.trans (hB2.mono hB.size)
    clear hl6 hB hB2
    go_wp2_with (fail)
    refine (combine16_c A5 n c5 ms _ (own_reads ho5) (by omega)).mono ?_
    rintro e w3 ⟨A7, n7, c7, rfl, hl7, ho7, hB3⟩
    obtain rfl : n7 = n6 := by rw [← hl7, H6.out]
    have ho5 := own_below ho5 hB3
    have ho6 := own_below ho6 hB3
    have ho7 := own_more (base := w.heap.size) ho7 hb.size
    have hB := hb.trans (hB3.mono hb.size)
    clear hl7 hb hB3
    go_wp2_with (fail)
    refine (splitT A n c k ms _ ((hr.below hB).more hB.size) (by omega)).mono ?_
    rintro e w4 ⟨A8, q, c8, vs8, rfl, hq, ho8, hr8, hB4⟩
    have hq16 : q ≤ 16 := by rw [← hq]; exact splitR_len _ _
    have HQ := Lib.hid hq
    have ho5 := own_below ho5 hB4
    have ho6 := own_below ho6 hB4
    have ho7 := own_below ho7 hB4
    have ho8 := own_more (base := w.heap.size) ho8 hB.size
    have hr8 := hr8.more hB.size
    have hb := hB.trans (hB4.mono hB.size)
    clear hq hB hB4
    go_wp2_with (fail)
    refine (split16T A5 n c5 k ms _ (own_reads ho5) (by omega)).mono ?_
    rintro e w5 ⟨A10, q2, c10, vs10, rfl, hq2, ho10, hr10, hB5⟩
    obtain rfl : q2 = q := by rw [← hq2, HQ.out]
    have ho5 := own_below ho5 hB5
    have ho6 := own_below ho6 hB5
    have ho7 := own_below ho7 hB5
    have ho8 := own_below ho8 hB5
    have hr8 := hr8.below hB5
    have ho10 := own_more (base := w.heap.size) ho10 hb.size
    have hr10 := hr10.more hb.size
    have hB := hb.trans (hB5.mono hb.size)
    clear hq2 hb hB5
    go_wp2_with (fail)
    refine (print_c A n c ms _ ((hr.below hB).more hB.size) hml).mono ?_
    rintro e w6 ⟨rfl, hB6⟩
    have ho5 := own_below ho5 hB6
    have ho6 := own_below ho6 hB6
    have ho7 := own_below ho7 hB6
    have ho8 := own_below ho8 hB6
    have hr8 := hr8.below hB6
    have ho10 := own_below ho10 hB6
    have hr10 := hr10.below hB6
    have hb := hB.trans (hB6.mono hB.size)
    clear hB hB6
    go_wp2_with (fail)
    refine (print16_c A5 n c5 ms _ (own_reads ho5) hml).mono ?_
    rintro e w7 ⟨rfl, hB7⟩
    have ho5 := own_below ho5 hB7
    have ho6 := own_below ho6 hB7
    have ho7 := own_below ho7 hB7
    have ho8 := own_below ho8 hB7
    have hr8 := hr8.below hB7
    have ho10 := own_below ho10 hB7
    have hr10 := hr10.below hB7
    have hB := hb.trans (hB7.mono hb.size)
    have hm6 : n7 ≤ maxLen := by unfold maxLen; omega
    have hmq : q2 ≤ maxLen := by unfold maxLen; omega
    clear hb hB7
    go_wp2_with (fail)
    refine (same16_c A6 A7 n7 n7 _ _ _ _ _ (own_reads ho6) (own_reads ho7) hm6 hm6).mono ?_
    rintro e w8 ⟨rfl, hB8⟩
    have hT : decide (combine ms = combine ms) = true := decide_eq_true rfl
    rw [hT]
    have ho5 := own_below ho5 hB8
    have ho6 := own_below ho6 hB8
    have ho8 := own_below ho8 hB8
    have hr8 := hr8.below hB8
    have ho10 := own_below ho10 hB8
    have hr10 := hr10.below hB8
    have hb := hB.trans (hB8.mono hB.size)
    clear hT hB hB8 ho7
    go_wp2_with (fail)
    refine (sameRows_c A8 A10 q2 q2 c8 c10 vs8 vs10 (splitR ms k) (splitR ms k) _ (own_reads ho8) (own_reads ho10) hr8.reads hr10.reads hmq hmq).mono ?_
    rintro e w9 ⟨rfl, hB9⟩
    have hT : decide (splitR ms k = splitR ms k) = true := decide_eq_true rfl
    rw [hT]
    have ho5 := own_below ho5 hB9
    have ho6 := own_below ho6 hB9
    have hB := hb.trans (hB9.mono hb.size)
    clear hT hb hB9 ho8 ho10 hr8 hr10
    go_wp2_with (fail)
    refine (check_c A n c ms _ ((hr.below hB).more hB.size) hml).mono ?_
    rintro e w10 ⟨rfl, hB10⟩
    have ho5 := own_below ho5 hB10
    have ho6 := own_below ho6 hB10
    have hb := hB.trans (hB10.mono hB.size)
    clear hB hB10
    go_wp2_with (fail)
    refine (check16_c A5 n c5 ms _ (own_reads ho5) hml).mono ?_
    rintro e w11 ⟨rfl, hB11⟩
    have ho5 := own_below ho5 hB11
    have ho6 := own_below ho6 hB11
    have hB := hb.trans (hB11.mono hb.size)
    clear hb hB11
    go_wp2_with (fail)
    go_loopw [17] (fun i wr => ∃ (j : Nat) (xs : List Value), j ≤ n7 ∧ i = .int .i64 j ∧ wr.ownsRow w.heap.size 31 4 (.slice A6 n7 c6) n7 xs ∧ wr.ownsRow w.heap.size 31 4 (.slice A5 n c5) n (mv ms) ∧ Below w.heap.size w wr) (fun i _ => n7 - (intOf i).toNat)
    case atStart => exact ⟨0, _, Nat.zero_le _, rfl, ho6, ho5, hB⟩
    case round =>
      clear ho6 ho5 hB
      obtain ⟨j, xs, hj, rfl, ho6, ho5, hB⟩ := hrel
      by_cases hlt : j < n7
      · obtain ⟨g, cap, hv, hgb, hgl⟩ := ho6.form (by omega)
        obtain rfl : A6 = some ⟨g, 0, none⟩ := by injection hv
        clear hv
        have hfr := ho6.frozenAt (j * 4 + 3)
        have hcell : ∃ v, wr.cell? ⟨g, j * 4 + 3, none⟩ = some v := by
          rw [ho6.cellAt _ (by omega)]
          exact ⟨_, List.getElem?_eq_getElem (by have := ho6.1; omega)⟩
        obtain ⟨v, hcell⟩ := hcell
        have hst := ho6.stored (j * 4 + 3) (.int .i64 (-7))
        have ho5' := own_only ho5 hst.2 (fun a ha e => hap.out a _ ha rfl (by injection e))
        have hB' := hB.grown hst.2 hB.size (fun h e => by injection e; omega)
        have HST := Lib.hid hst.1
        have HO5 := Lib.hid ho5'
        have HB := Lib.hid hB'
        clear hst ho5' hB' ho6 ho5 hB
        go_wp2_with (fail)
        go_roundw
        case rel => exact ⟨j + 1, _, by omega, by go_num, HST.out, HO5.out, HB.out⟩
        case measure => simp [intOf]; omega
      · clear ho6
        go_wp2_with (fail)
        refine (mails_c _).mono ?_
        rintro e w12 ⟨rfl, hB12⟩
        have ho5 := own_below ho5 hB12
        have hb := hB.trans (hB12.mono hB.size)
        clear hB hB12
        go_wp2_with (fail)
        refine (same16_c A A5 n n c c5 ms ms _ ((hr.below hb).more hb.size) (own_reads ho5) hml hml).mono ?_
        rintro e w13 ⟨rfl, hB13⟩
        have hT : decide (ms = ms) = true := decide_eq_true rfl
        rw [hT]
        have hB := hb.trans (hB13.mono hb.size)
        go_wp2_with (fail)
        go_ret
        exact ⟨rfl, hB⟩
end Go.Proofs.Ytgphijfcmegdaaa
