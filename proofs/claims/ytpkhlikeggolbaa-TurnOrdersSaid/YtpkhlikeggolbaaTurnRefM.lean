/-
  The walk of the reference's Mails (chapter 17).
-/
import Derived.Test.YtpkhlikeggolbaaTurnRef
namespace Go.Proofs.Ytpkhlikeggolbaa
open Go.RowKit

theorem refMails_c (A C : Option Addr) (n c m d : Nat) (xs : List Msg) (ps : List Int) (w : World) (hr : Reads w w.heap.size 4 A n (mv xs)) (hn : n ≤ 1000000) (hrp : Reads w w.heap.size 1 C m (iv ps)) (hm : m ≤ maxLen) :
    Calls Try.prog 22 #[.slice A n c, .slice C m d] w fun e w' =>
      ∃ A' c', e = .returned (.slice A' n c') ∧ w'.ownsRow w.heap.size 43 4 (.slice A' n c') n (mv (ord xs ps)) ∧ Below w.heap.size w w' := by
  unfold maxLen at hm
  go_enter Try.func22, Try.ntmps22
  go_wp2_with (at_builtin; refine wpList_cat elMail rfl _ _ rfl (own_nil (base := w.heap.size)) rfl hr rfl (mv_one _) (by unfold maxLen; omega) (by omega) (Nat.le_refl _) ?_; intro A1 c1 w1 hown p1)
  simp only [Nat.zero_add, List.nil_append] at hown
  have hB := p1.below0 (Below.refl w.heap.size w) (Nat.le_refl _)
  clear p1
  go_loopw [7, 5, 6] (fun i left out wr => ∃ (j k : Nat) (ls os : List Msg) (A6 A8 : Option Addr) (c6 c8 : Nat), Hid (j + k = n) ∧ j ≤ n ∧ k ≤ n ∧ i = .int .i64 j ∧ left = .slice A6 k c6 ∧ out = .slice A8 j c8 ∧
      wr.ownsRow w.heap.size 43 4 (.slice A6 k c6) k (mv ls) ∧ wr.ownsRow w.heap.size 43 4 (.slice A8 j c8) j (mv os) ∧ Apart A6 A8 ∧
      Hid (os ++ ord ls (ps.drop j) = ord xs ps) ∧ Below w.heap.size w wr)
    (fun _ left _ _ => slLen left)
  case atStart => exact ⟨0, n, xs, [], _, none, _, 0, Nat.zero_add _, Nat.zero_le _, Nat.le_refl _, rfl, rfl, rfl, hown, own_nil, Apart.none_right, rfl, hB⟩
  case round =>
    obtain ⟨j, k, ls, os, A6, A8, c6, c8, hjk, hj, hk, rfl, rfl, rfl, hol, hoo, hap, heq, hB⟩ := hrel
    have hcap := own_cap hol
    by_cases hlt : 0 < k
    · obtain ⟨g, rfl⟩ := own_head hol hlt
      have hrw : Reads wr w.heap.size 1 C m (iv ps) := hrp.below hB
      have hgl := (own_lt hol _ rfl).2
      have hgb : w.heap.size ≤ g := (own_lt hol _ rfl).1
      have hjn : j < n := by have := hjk.out; omega
      have hlk : Hid (ls.length = k) := by show _ = _; have := hol.1; rw [mv_len] at this; omega
      go_upto_if 23 with (fail)
      go_cut [8] (fun at_ wc => ∃ q : Nat, at_ = .int .i64 q ∧ q < k ∧ Hid (pickAt k (ps[j]?.getD 0) = q) ∧ Hid (wc = wr))
      case first =>
        have hpm := hrw.int_len
        have hpm2 := Lib.hid hpm
        clear hpm hol hoo
        by_cases hjm : j < m
        · obtain ⟨a, o, p, rfl, hp, hcp⟩ := hrw.int_at hjm
          have HE := Lib.hid (pickAt_cast k p (by omega))
          have hpl := pickAt_lt k p (by omega)
          clear hrw hrp
          go_wp2_with (go_at_call 19; refine (refPick_yes _ _ _ (by omega) (by omega)).mono ?_; rintro e w3 ⟨rfl, rfl⟩)
          go_meet
          case rel => exact ⟨pickAt k p, by rw [HE.out], hpl, by show _ = _; rw [hp.out]; rfl, rfl⟩
        · go_wp2
          go_meet
          case rel => exact ⟨0, rfl, hlt, by show _ = _; rw [List.getElem?_eq_none (by have := hpm2.out; omega)]; exact pickAt_zero _, rfl⟩
      case rest =>
        obtain ⟨q, rfl, hqk, hq, hwc⟩ := hcut
        have hol1 : wc.ownsRow w.heap.size 43 4 (.slice (some ⟨g, 0, none⟩) k c6) k (mv ls) := by rw [hwc.out]; exact hol
        have hoo1 : wc.ownsRow w.heap.size 43 4 (.slice A8 j c8) j (mv os) := by rw [hwc.out]; exact hoo
        have hB1 : Below w.heap.size w wc := by rw [hwc.out]; exact hB
        have hs1 := (own_lt hol1 _ rfl).2
        have hsz1 := hB1.size
        obtain ⟨x, hxq, hcx0, hcx1, hcx2, hcx3⟩ := own_mail_at hol1 hqk
        clear hol hoo hB hwc hrw hrp
        go_wp2_with (first
          | (at_builtin; refine wpList_push elMail rfl _ _ rfl hoo1 rfl _ rfl rfl (mc_one x) (by unfold maxLen; omega) (by omega) hsz1 ?_; intro A4 c4 w4 hoo4 p4; have hol4 := p4.keep hol1 hap; have hap4 := p4.apart hol1 hap; have hB4 := p4.below hoo1 hB1 (Nat.le_refl _) hsz1; have hsz4 := hB4.size; have hq0 : (0 : Int) ≤ (q : Int) := by omega)
          | (at_builtin; refine wpList_cat elMail rfl _ _ rfl (own_nil (base := w4.heap.size)) rfl (own_reads (own_shorter (k := q) hol4 (by omega) (by simp))) rfl (fun u hu => mv_one _ _ (List.mem_of_mem_take hu)) (by unfold maxLen; omega) (by omega) (Nat.le_refl _) ?_; intro A5 c5 w5 hon5 p5; simp only [Nat.zero_add, List.nil_append] at hon5; have hol5 := p5.keep hol4 Apart.none_right; have hoo5 := p5.keep hoo4 Apart.none_right; have hB5 := p5.below0 hB4 hsz4; have ha5l := apart_of_lt hol4 hon5 (Nat.le_refl _); have ha5o := apart_of_lt hoo4 hon5 (Nat.le_refl _))
          | (at_builtin; refine wpList_cat elMail rfl _ _ rfl hon5 rfl (own_cut (k := q + 1) hol5 (by omega) (fun h => by rw [if_neg (by omega)])) rfl (fun u hu => mv_one _ _ (List.mem_of_mem_drop hu)) (by unfold maxLen; omega) (by omega) p5.larger ?_; intro A9 c9 w9 hon9 p9))
        go_roundw
        case rel =>
          refine ⟨j + 1, k - 1, ls.eraseIdx q, os ++ [x], A9, A4, c9, c4, ?_, by omega, by omega, by go_num, by rw [show k - 1 = q + (k - (q + 1)) by omega], rfl, ?_, ?_, (p9.apart hoo5 ha5o).symm, ?_, ?_⟩
          · show _ = _; have := hjk.out; omega
          · have h := own_more (base := w.heap.size) hon9 hsz4
            rw [mv_erase, show q + (k - (q + 1)) = k - 1 by omega] at h
            exact h
          · rw [mv_append, show mv [x] = mc x by simp [mv]]
            exact p9.keep hoo5 ha5o
          · show _ = _
            rw [List.append_assoc, List.singleton_append, ← ord_step_at ls ps j q x (by rw [hlk.out]; exact hq.out) hxq.out]
            exact heq.out
          · exact p9.below hon5 hB5 hsz4 (Nat.le_trans hsz4 p5.larger)
        case measure => simp [slLen]; omega
    · have hk0 : k = 0 := by omega
      subst hk0
      obtain rfl : n = j := by have := hjk.out; omega
      have hls : ls = [] := List.eq_nil_of_length_eq_zero (by have := hol.1; rw [mv_len] at this; omega)
      subst hls
      have hos : Hid (os = ord xs ps) := by show _ = _; have := heq.out; rw [ord_nil, List.append_nil] at this; exact this
      clear hol
      go_wp2
      go_ret
      exact ⟨A8, c8, rfl, by rw [← hos.out]; exact hoo, hB⟩
end Go.Proofs.Ytpkhlikeggolbaa
