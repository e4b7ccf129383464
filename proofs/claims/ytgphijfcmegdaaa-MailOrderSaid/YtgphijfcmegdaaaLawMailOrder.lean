/-
  MailOrder: the walk.
-/
import Derived.Test.YtgphijfcmegdaaaMails
import Derived.Test.YtgphijfcmegdaaaMailPut
namespace Go.Proofs.Ytgphijfcmegdaaa
open Go.RowKit

theorem mailOrder_far (A : Option Addr) (n c : Nat) (p : Int) (w : World) (hn : n ≤ maxLen) (h : 100 < n ∨ p < 0 ∨ n < p) :
    Calls Try.prog 7 #[.slice A n c, .int .i64 p] w fun e w' => e = .returned (.bool true) ∧ Below w.heap.size w w' := by
  rcases Nat.lt_or_ge 100 n with h1 | h1
  · go_enter Try.func7, Try.ntmps7
    go_wp2_with (fail)
    go_ret
    exact ⟨rfl, Below.refl _ _⟩
  · rcases Int.lt_or_le p 0 with h2 | h2
    · go_enter Try.func7, Try.ntmps7
      go_wp2_with (fail)
      go_ret
      exact ⟨rfl, Below.refl _ _⟩
    · have h3 : (n : Int) < p := by omega
      go_enter Try.func7, Try.ntmps7
      go_wp2_with (fail)
      go_ret
      exact ⟨rfl, Below.refl _ _⟩

theorem combine_len (l : List Msg) : (combine l).length ≤ l.length := by
  refine snoc_ind (p := fun l => (combine l).length ≤ l.length) (by simp [combine]) (fun l x ih => ?_) l
  rw [combine_snoc, List.length_append]
  have := putM_len (combine l) x
  simp
  omega

theorem rev_step {ms : List Msg} {m : Nat} {x : Msg} (h : ms[m]? = some x) : (ms.drop m).reverse = (ms.drop (m + 1)).reverse ++ [x] := by
  obtain ⟨hm, e⟩ := List.getElem?_eq_some_iff.1 h
  rw [List.drop_eq_getElem_cons hm, e, List.reverse_cons]

set_option maxRecDepth 100000 in
set_option maxHeartbeats 4000000 in
theorem mailOrder_c (A : Option Addr) (n c p : Nat) (ms : List Msg) (w : World) (hr : Reads w w.heap.size 4 A n (mv ms)) (hn : n ≤ 100) (hc : n ≤ c) (hp : p ≤ n) (hf : ∀ m ∈ ms, m.fits) :
    Calls Try.prog 7 #[.slice A n c, .int .i64 p] w fun e w' => e = .returned (.bool true) ∧ Below w.heap.size w w' := by
  have hl := hr.mail_len
  have HL := Lib.hid hl
  clear hl
  have hml : n ≤ maxLen := by unfold maxLen; omega
  go_enter Try.func7, Try.ntmps7
  go_wp2_with (fail)
  go_loopw [5, 6] (fun bk i wr => ∃ (m q : Nat) (A5 : Option Addr) (c5 : Nat), m ≤ n ∧ q ≤ n ∧ i = .int .i64 ((m : Int) - 1) ∧ bk = .slice A5 q c5 ∧ Hid (q + m = n) ∧ wr.ownsRow w.heap.size 31 4 (.slice A5 q c5) q (mv (ms.drop m).reverse) ∧ Below w.heap.size w wr) (fun _ i _ => (intOf i + 1).toNat)
  case atStart => exact ⟨n, 0, none, 0, Nat.le_refl _, Nat.zero_le _, rfl, rfl, Nat.zero_add _, by rw [List.drop_of_length_le (by rw [HL.out]; exact Nat.le_refl _)]; exact own_nil, Below.refl _ _⟩
  case round =>
    obtain ⟨m, q, A5, c5, hm, hq, rfl, rfl, hqm, ho, hB⟩ := hrel
    rcases Nat.eq_zero_or_pos m with rfl | hpos
    · rw [List.drop_zero] at ho
      obtain rfl : q = n := hqm.out
      go_wp2_with (fail)
      · have hcut : Reads wr wr.heap.size 4 A (q - p) (mv (ms.drop p)) := by
          have e1 : q - p = 0 := by omega
          have e2 : ms.drop p = [] := List.drop_of_length_le (by rw [HL.out]; omega)
          rw [e1, e2]
          exact Reads.none_
        refine (combine_c _ (q - p) _ (ms.drop p) _ hcut (by omega) (fun m hm => hf m (List.mem_of_mem_drop hm))).mono ?_
        rintro e w1 ⟨A1, n1, c1, rfl, hl1, ho1, hB1⟩
        have hn1 : n1 ≤ q := by rw [← hl1]; refine Nat.le_trans (combine_len _) ?_; have := HL.out; simp; omega
        have ho := own_below ho hB1
        have hb := hB.trans (hB1.mono hB.size)
        have hsz1 : w.heap.size ≤ w1.heap.size := hb.size
        have HR1 := Lib.hid (own_reads ho1)
        have H1 := Lib.hid hl1
        clear hcut hl1 hB hB1 ho1
        go_wp2_with (at_builtin; go_must (refine wpList_cat elMail rfl _ _ rfl (own_nil (base := w1.heap.size)) rfl HR1.out rfl (mv_one _) (by unfold maxLen; omega) (by omega) (Nat.le_refl _) ?_; intro A2 c2 w2 ho2 p2))
        have hB2 : Below w1.heap.size w1 w2 := p2.below0 (Below.refl _ _) (Nat.le_refl _)
        have hap : Hid (Apart A5 A2) := apart_of_lt ho ho2 (Nat.le_refl _)
        have ho := own_below ho hB2
        have hB := hb.trans (hB2.mono hb.size)
        simp only [Nat.zero_add, List.nil_append] at ho2
        have hsz2 : w1.heap.size ≤ w2.heap.size := hB2.size
        generalize w1.heap.size = b at ho2 hsz1 hsz2 
        have hpq : (p : Int) ≤ (q : Int) := by omega
        have hpc2 : p ≤ c := by omega
        clear HR1 hb hB2 p2
        go_wp2_with (fail)
        have hfst : Reads w2 w2.heap.size 4 A p (mv (ms.take p)) := by rw [← mv_take]; exact ((hr.below hB).first hp).more hB.size
        refine (combine_c A p _ (ms.take p) _ hfst (by omega) (fun m hm => hf m (List.mem_of_mem_take hm))).mono ?_
        rintro e w3 ⟨A3, n3, c3, rfl, hl3, ho3, hB3⟩
        have hn3 : n3 ≤ q := by rw [← hl3]; refine Nat.le_trans (combine_len _) ?_; rw [List.length_take]; omega
        have H3 := Lib.hid hl3
        have ho := own_below ho hB3
        have ho2 := own_below ho2 hB3
        have hb := hB.trans (hB3.mono hB.size)
        have hsz3 : b ≤ w3.heap.size := Nat.le_trans hsz2 hB3.size
        have HR3 := Lib.hid (own_reads ho3)
        clear hfst hl3 hB hB3 ho3 hsz2
        go_wp2_with (at_builtin; go_must (refine wpList_cat elMail rfl _ _ rfl ho2 rfl HR3.out rfl (mv_one _) (by unfold maxLen; omega) (by omega) hsz3 ?_; intro A4 c4 w4 ho4 p4))
        have hB4 : Below w.heap.size w w4 := p4.below ho2 hb hsz1 hb.size
        have ho := p4.keep ho hap.out
        clear ho2 HR3 hb hap p4 hsz3
        go_wp2_with (fail)
        refine (combine_c A q _ ms _ ((hr.below hB4).more hB4.size) (by omega) hf).mono ?_
        rintro e w5 ⟨A6, n6, c6, rfl, hl6, ho6, hB5⟩
        have hn6 : n6 ≤ q := by rw [← hl6]; refine Nat.le_trans (combine_len _) ?_; have := HL.out; omega
        have H6 := Lib.hid hl6
        have ho := own_below ho hB5
        have ho4 := own_below ho4 hB5
        have hb := hB4.trans (hB5.mono hB4.size)
        clear hl6 hB4 hB5
        go_wp2_with (fail)
        refine (mails_c _).mono ?_
        rintro e w6 ⟨rfl, hB6⟩
        have ho := own_below ho hB6
        have ho4 := own_below ho4 hB6
        have ho6 := own_below ho6 hB6
        have hB := hb.trans (hB6.mono hb.size)
        clear hb hB6
        go_wp2_with (fail)
        refine (combine_c A5 q c5 ms.reverse _ (own_reads ho) (by omega) (fun m hm => hf m (by simpa using hm))).mono ?_
        rintro e w7 ⟨A7, n7, c7, rfl, hl7, ho7, hB7⟩
        have hrev : Hid (combine ms.reverse = combine ms) := combine_same fun m => by simp
        rw [hrev.out] at ho7 hl7
        obtain rfl : n7 = n6 := by rw [← hl7, H6.out]
        have ho4 := own_below ho4 hB7
        have ho6 := own_below ho6 hB7
        have hb := hB.trans (hB7.mono hB.size)
        have hm6 : n7 ≤ maxLen := by unfold maxLen; omega
        clear hl7 hB hB7 ho
        go_wp2_with (fail)
        refine (same16_c A6 A7 n7 n7 _ _ _ _ _ (own_reads ho6) (own_reads ho7) hm6 hm6).mono ?_
        rintro e w8 ⟨rfl, hB8⟩
        have hT : decide (combine ms = combine ms) = true := decide_eq_true rfl
        rw [hT]
        clear hT
        have ho4 := own_below ho4 hB8
        have ho6 := own_below ho6 hB8
        have hB := hb.trans (hB8.mono hb.size)
        clear hb hB8 ho7
        go_wp2_with (fail)
        have ho4 : w8.ownsRow b 31 4 (.slice A4 (n1 + n3) c4) (n1 + n3) (mv (combine (ms.drop p) ++ combine (ms.take p))) := by rw [mv_append]; exact ho4
        refine (combine_c A4 (n1 + n3) c4 (combine (ms.drop p) ++ combine (ms.take p)) _ (own_reads ho4) (by omega) (fun m hm => by
          rcases List.mem_append.1 hm with h | h
          · exact hf m (List.mem_of_mem_drop (mem_combine h))
          · exact hf m (List.mem_of_mem_take (mem_combine h)))).mono ?_
        rintro e w9 ⟨A9, n9, c9, rfl, hl9, ho9, hB9⟩
        have hpt : Hid (combine (combine (ms.drop p) ++ combine (ms.take p)) = combine ms) := by
          show _ = _
          rw [combine_parts]
          refine combine_same fun m => ?_
          have e : m ∈ ms ↔ m ∈ ms.take p ++ ms.drop p := by rw [List.take_append_drop]
          rw [e, List.mem_append, List.mem_append]
          exact Or.comm
        rw [hpt.out] at ho9 hl9
        obtain rfl : n9 = n7 := by rw [← hl9, H6.out]
        have ho6 := own_below ho6 hB9
        have hb := hB.trans (hB9.mono hB.size)
        clear hl9 hB hB9 ho4
        go_wp2_with (fail)
        refine (same16_c A6 A9 n9 n9 _ _ _ _ _ (own_reads ho6) (own_reads ho9) hm6 hm6).mono ?_
        rintro e w10 ⟨rfl, hB10⟩
        have hT2 : decide (combine ms = combine ms) = true := decide_eq_true rfl
        rw [hT2]
        have hB := hb.trans (hB10.mono hb.size)
        go_wp2_with (fail)
        go_ret
        exact ⟨rfl, hB⟩
      · have hcut : Reads wr wr.heap.size 4 (Option.map (fun x => x.add (p * 4)) A) (q - p) (mv (ms.drop p)) := by
          rw [← mv_drop]
          exact ((hr.below hB).cut hp (fun h b o e => by subst e; simp [Addr.add])).more hB.size
        refine (combine_c _ (q - p) _ (ms.drop p) _ hcut (by omega) (fun m hm => hf m (List.mem_of_mem_drop hm))).mono ?_
        rintro e w1 ⟨A1, n1, c1, rfl, hl1, ho1, hB1⟩
        have hn1 : n1 ≤ q := by rw [← hl1]; refine Nat.le_trans (combine_len _) ?_; have := HL.out; simp; omega
        have ho := own_below ho hB1
        have hb := hB.trans (hB1.mono hB.size)
        have hsz1 : w.heap.size ≤ w1.heap.size := hb.size
        have HR1 := Lib.hid (own_reads ho1)
        have H1 := Lib.hid hl1
        clear hcut hl1 hB hB1 ho1
        go_wp2_with (at_builtin; go_must (refine wpList_cat elMail rfl _ _ rfl (own_nil (base := w1.heap.size)) rfl HR1.out rfl (mv_one _) (by unfold maxLen; omega) (by omega) (Nat.le_refl _) ?_; intro A2 c2 w2 ho2 p2))
        have hB2 : Below w1.heap.size w1 w2 := p2.below0 (Below.refl _ _) (Nat.le_refl _)
        have hap : Hid (Apart A5 A2) := apart_of_lt ho ho2 (Nat.le_refl _)
        have ho := own_below ho hB2
        have hB := hb.trans (hB2.mono hb.size)
        simp only [Nat.zero_add, List.nil_append] at ho2
        have hsz2 : w1.heap.size ≤ w2.heap.size := hB2.size
        generalize w1.heap.size = b at ho2 hsz1 hsz2 
        have hpq : (p : Int) ≤ (q : Int) := by omega
        have hpc2 : p ≤ c := by omega
        clear HR1 hb hB2 p2
        go_wp2_with (fail)
        have hfst : Reads w2 w2.heap.size 4 A p (mv (ms.take p)) := by rw [← mv_take]; exact ((hr.below hB).first hp).more hB.size
        refine (combine_c A p _ (ms.take p) _ hfst (by omega) (fun m hm => hf m (List.mem_of_mem_take hm))).mono ?_
        rintro e w3 ⟨A3, n3, c3, rfl, hl3, ho3, hB3⟩
        have hn3 : n3 ≤ q := by rw [← hl3]; refine Nat.le_trans (combine_len _) ?_; rw [List.length_take]; omega
        have H3 := Lib.hid hl3
        have ho := own_below ho hB3
        have ho2 := own_below ho2 hB3
        have hb := hB.trans (hB3.mono hB.size)
        have hsz3 : b ≤ w3.heap.size := Nat.le_trans hsz2 hB3.size
        have HR3 := Lib.hid (own_reads ho3)
        clear hfst hl3 hB hB3 ho3 hsz2
        go_wp2_with (at_builtin; go_must (refine wpList_cat elMail rfl _ _ rfl ho2 rfl HR3.out rfl (mv_one _) (by unfold maxLen; omega) (by omega) hsz3 ?_; intro A4 c4 w4 ho4 p4))
        have hB4 : Below w.heap.size w w4 := p4.below ho2 hb hsz1 hb.size
        have ho := p4.keep ho hap.out
        clear ho2 HR3 hb hap p4 hsz3
        go_wp2_with (fail)
        refine (combine_c A q _ ms _ ((hr.below hB4).more hB4.size) (by omega) hf).mono ?_
        rintro e w5 ⟨A6, n6, c6, rfl, hl6, ho6, hB5⟩
        have hn6 : n6 ≤ q := by rw [← hl6]; refine Nat.le_trans (combine_len _) ?_; have := HL.out; omega
        have H6 := Lib.hid hl6
        have ho := own_below ho hB5
        have ho4 := own_below ho4 hB5
        have hb := hB4.trans (hB5.mono hB4.size)
        clear hl6 hB4 hB5
        go_wp2_with (fail)
        refine (mails_c _).mono ?_
        rintro e w6 ⟨rfl, hB6⟩
        have ho := own_below ho hB6
        have ho4 := own_below ho4 hB6
        have ho6 := own_below ho6 hB6
        have hB := hb.trans (hB6.mono hb.size)
        clear hb hB6
        go_wp2_with (fail)
        refine (combine_c A5 q c5 ms.reverse _ (own_reads ho) (by omega) (fun m hm => hf m (by simpa using hm))).mono ?_
        rintro e w7 ⟨A7, n7, c7, rfl, hl7, ho7, hB7⟩
        have hrev : Hid (combine ms.reverse = combine ms) := combine_same fun m => by simp
        rw [hrev.out] at ho7 hl7
        obtain rfl : n7 = n6 := by rw [← hl7, H6.out]
        have ho4 := own_below ho4 hB7
        have ho6 := own_below ho6 hB7
        have hb := hB.trans (hB7.mono hB.size)
        have hm6 : n7 ≤ maxLen := by unfold maxLen; omega
        clear hl7 hB hB7 ho
        go_wp2_with (fail)
        refine (same16_c A6 A7 n7 n7 _ _ _ _ _ (own_reads ho6) (own_reads ho7) hm6 hm6).mono ?_
        rintro e w8 ⟨rfl, hB8⟩
        have hT : decide (combine ms = combine ms) = true := decide_eq_true rfl
        rw [hT]
        clear hT
        have ho4 := own_below ho4 hB8
        have ho6 := own_below ho6 hB8
        have hB := hb.trans (hB8.mono hb.size)
        clear hb hB8 ho7
        go_wp2_with (fail)
        have ho4 : w8.ownsRow b 31 4 (.slice A4 (n1 + n3) c4) (n1 + n3) (mv (combine (ms.drop p) ++ combine (ms.take p))) := by rw [mv_append]; exact ho4
        refine (combine_c A4 (n1 + n3) c4 (combine (ms.drop p) ++ combine (ms.take p)) _ (own_reads ho4) (by omega) (fun m hm => by
          rcases List.mem_append.1 hm with h | h
          · exact hf m (List.mem_of_mem_drop (mem_combine h))
          · exact hf m (List.mem_of_mem_take (mem_combine h)))).mono ?_
        rintro e w9 ⟨A9, n9, c9, rfl, hl9, ho9, hB9⟩
        have hpt : Hid (combine (combine (ms.drop p) ++ combine (ms.take p)) = combine ms) := by
          show _ = _
          rw [combine_parts]
          refine combine_same fun m => ?_
          have e : m ∈ ms ↔ m ∈ ms.take p ++ ms.drop p := by rw [List.take_append_drop]
          rw [e, List.mem_append, List.mem_append]
          exact Or.comm
        rw [hpt.out] at ho9 hl9
        obtain rfl : n9 = n7 := by rw [← hl9, H6.out]
        have ho6 := own_below ho6 hB9
        have hb := hB.trans (hB9.mono hB.size)
        clear hl9 hB hB9 ho4
        go_wp2_with (fail)
        refine (same16_c A6 A9 n9 n9 _ _ _ _ _ (own_reads ho6) (own_reads ho9) hm6 hm6).mono ?_
        rintro e w10 ⟨rfl, hB10⟩
        have hT2 : decide (combine ms = combine ms) = true := decide_eq_true rfl
        rw [hT2]
        have hB := hb.trans (hB10.mono hb.size)
        go_wp2_with (fail)
        go_ret
        exact ⟨rfl, hB⟩
    · obtain ⟨m, rfl⟩ : ∃ k, m = k + 1 := ⟨m - 1, by omega⟩
      obtain ⟨b, o, x, rfl, hx, c0, c1, c2, c3⟩ := (hr.below hB).mail_at (k := m) (by omega)
      have hi : ((m + 1 : Nat) : Int) - 1 = (m : Int) := by omega
      rw [hi]
      have hsz := hB.size
      have hmn : (m : Int) < (n : Int) := by omega
      go_wp2_with (at_builtin; go_must (refine wpList_push elMail rfl _ _ rfl ho rfl _ rfl rfl (mc_one x) (by unfold maxLen; omega) (by omega) hsz ?_; intro A4 c4 w4 ho4 p4))
      go_roundw
      case rel =>
        have hqq := hqm.out
        refine ⟨m, by omega, q + 1, by omega, rfl, A4, c4, ⟨rfl, rfl, rfl⟩, by show _ = _; omega, ?_, p4.below ho hB (Nat.le_refl _) hsz⟩
        rw [rev_step hx.out, mv_append, show mv [x] = mc x by simp [mv]]
        exact ho4
      case measure => simp [intOf] <;> omega
end Go.Proofs.Ytgphijfcmegdaaa
