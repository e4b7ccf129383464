/-
  The walks of the reference's Order and Mails (chapter 17).
-/
import Derived.Test.YtpkhlikeggolbaaTurnTop
import Derived.Deep.DeepCutAuto
namespace Go.Proofs.Ytpkhlikeggolbaa
open Go.RowKit

theorem refOrder_no (C : Option Addr) (n : Int) (m d : Nat) (w : World) (hn : n < 0 ∨ 1000 < n) :
    Calls Try.prog 20 #[.int .i64 n, .slice C m d] w fun e w' => e = .returned (.tuple #[.slice none 0 0, .int .i64 1]) ∧ w = w' := by
  rcases hn with hn | hn
  · go_enter Try.func20, Try.ntmps20
    go_wp2
    go_ret2
    exact ⟨rfl, rfl⟩
  · have hn' : ¬ n < 0 := by omega
    go_enter Try.func20, Try.ntmps20
    go_wp2
    go_ret2
    exact ⟨rfl, rfl⟩

theorem own_head {w : World} {base e size n c : Nat} {A : Option Addr} {xs : List Value} (h : w.ownsRow base e size (.slice A n c) n xs) (hn : 0 < n) : ∃ g, A = some ⟨g, 0, none⟩ := by
  obtain ⟨g, cap, hv, _⟩ := h.form hn
  injection hv with h1
  exact ⟨g, h1⟩

theorem refOrder_c (C : Option Addr) (n m d : Nat) (ps : List Int) (w : World) (hn : n ≤ 1000) (hrp : Reads w w.heap.size 1 C m (iv ps)) (hm : m ≤ maxLen) :
    Calls Try.prog 20 #[.int .i64 n, .slice C m d] w fun e w' =>
      ∃ A' c', e = .returned (.tuple #[.slice A' n c', .int .i64 0]) ∧ w'.ownsRow w.heap.size 3 1 (.slice A' n c') n (iv (ord (upto n) ps)) ∧ Below w.heap.size w w' := by
  unfold maxLen at hm
  have hd1 : (decide ((n : Int) < 0)) = false := by simp
  go_enter Try.func20, Try.ntmps20
  go_wp2
  go_loopw [7, 6] (fun v left wr => ∃ (k : Nat) (A6 : Option Addr) (c6 : Nat), k ≤ n ∧ v = .int .i64 k ∧ left = .slice A6 k c6 ∧ wr.ownsRow w.heap.size 3 1 (.slice A6 k c6) k (iv (upto k)) ∧ Below w.heap.size w wr) (fun v _ _ => n - (intOf v).toNat)
  case atStart => exact ⟨0, none, 0, Nat.zero_le _, rfl, rfl, own_nil, Below.refl _ _⟩
  case round =>
   obtain ⟨k, A6, c6, hk, rfl, rfl, ho, hB⟩ := hrel
   have hsz := hB.size
   by_cases hlt : k < n
   · go_wp2_with (at_builtin; refine wpList_push elInt rfl _ _ rfl ho rfl _ rfl rfl (one_int _ _) (by unfold maxLen; omega) (by omega) hsz ?_; intro A4 c4 w4 ho4 p4)
     go_roundw
     case rel => exact ⟨k + 1, A4, c4, by omega, by go_num, rfl, by rw [upto_succ, iv_append]; exact ho4, p4.below ho hB (Nat.le_refl _) hsz⟩
     case measure => simp [intOf]; omega
   obtain rfl : n = k := by omega
   have hown := ho
   clear ho
   go_wp2
   go_loopw [9, 6, 8] (fun i left out wr => ∃ (j k : Nat) (ls os : List Int) (A6 A8 : Option Addr) (c6 c8 : Nat), Hid (j + k = n) ∧ j ≤ n ∧ k ≤ n ∧ i = .int .i64 j ∧ left = .slice A6 k c6 ∧ out = .slice A8 j c8 ∧
       wr.ownsRow w.heap.size 3 1 (.slice A6 k c6) k (iv ls) ∧ wr.ownsRow w.heap.size 3 1 (.slice A8 j c8) j (iv os) ∧ Apart A6 A8 ∧
       Hid (os ++ ord ls (ps.drop j) = ord (upto n) ps) ∧ Below w.heap.size w wr)
     (fun _ left _ _ => slLen left)
   case atStart => exact ⟨0, n, upto n, [], _, none, _, 0, Nat.zero_add _, Nat.zero_le _, Nat.le_refl _, rfl, rfl, rfl, hown, own_nil, Apart.none_right, rfl, hB⟩
   case round =>
     obtain ⟨j, k, ls, os, A6, A8, c6, c8, hjk, hj, hk, rfl, rfl, rfl, hol, hoo, hap, heq, hB⟩ := hrel
     have hcap := own_cap hol
     by_cases hlt : 0 < k
     · obtain ⟨g, rfl⟩ := own_head hol hlt
       have hrw : Reads wr w.heap.size 1 C m (iv ps) := hrp.below hB
       have hgl := (own_lt hol _ rfl).2
       have hgb : w.heap.size ≤ g := (own_lt hol _ rfl).1
       have hjn : j < n := by have := hjk.out; omega
       have hlk : Hid (ls.length = k) := by show _ = _; have := hol.1; simpa [iv] using this
       go_upto_if 37 with (fail)
       go_cut [10] (fun at_ wc => ∃ q : Nat, at_ = .int .i64 q ∧ q < k ∧ Hid (pickAt k (ps[j]?.getD 0) = q) ∧ Hid (wc = wr))
       case first =>
         have hpm := hrw.int_len
         have hpm2 := Lib.hid hpm
         clear hpm hol hoo
         by_cases hjm : j < m
         · obtain ⟨a, o, p, rfl, hp, hcp⟩ := hrw.int_at hjm
           have HE := Lib.hid (pickAt_cast k p (by omega))
           have hpl := pickAt_lt k p (by omega)
           clear hrw hrp
           go_wp2_with (go_at_call 19; refine (refPick_yes _ _ _ (by omega) (by omega)).mono ?_; rintro e w3 ⟨rfl, rfl⟩)
           go_meet
           case rel => exact ⟨pickAt k p, by rw [HE.out], hpl, by show _ = _; rw [hp.out]; rfl, rfl⟩
         · go_wp2
           go_meet
           case rel => exact ⟨0, rfl, hlt, by show _ = _; rw [List.getElem?_eq_none (by have := hpm2.out; omega)]; exact pickAt_zero _, rfl⟩
       case rest =>
         obtain ⟨q, rfl, hqk, hq, hwc⟩ := hcut
         have hol1 : wc.ownsRow w.heap.size 3 1 (.slice (some ⟨g, 0, none⟩) k c6) k (iv ls) := by rw [hwc.out]; exact hol
         have hoo1 : wc.ownsRow w.heap.size 3 1 (.slice A8 j c8) j (iv os) := by rw [hwc.out]; exact hoo
         have hB1 : Below w.heap.size w wc := by rw [hwc.out]; exact hB
         have hs1 := (own_lt hol1 _ rfl).2
         have hsz1 := hB1.size
         obtain ⟨x, hxq, hcx⟩ := own_int_at hol1 hqk
         clear hol hoo hB hwc hrw hrp
         go_wp2_with (first
           | (at_builtin; refine wpList_push elInt rfl _ _ rfl hoo1 rfl _ rfl rfl (one_int _ x) (by unfold maxLen; omega) (by omega) hsz1 ?_; intro A4 c4 w4 hoo4 p4; have hol4 := p4.keep hol1 hap; have hap4 := p4.apart hol1 hap; have hB4 := p4.below hoo1 hB1 (Nat.le_refl _) hsz1; have hsz4 := hB4.size; have hq0 : (0 : Int) ≤ (q : Int) := by omega)
           | (at_builtin; refine wpList_cat elInt rfl _ _ rfl (own_nil (base := w4.heap.size)) rfl (own_reads (own_shorter (k := q) hol4 (by omega) (by simp))) rfl (fun u hu => iv_one _ _ (List.mem_of_mem_take hu)) (by unfold maxLen; omega) (by omega) (Nat.le_refl _) ?_; intro A5 c5 w5 hon5 p5; simp only [Nat.zero_add, List.nil_append] at hon5; have hol5 := p5.keep hol4 Apart.none_right; have hoo5 := p5.keep hoo4 Apart.none_right; have hB5 := p5.below0 hB4 hsz4; have ha5l := apart_of_lt hol4 hon5 (Nat.le_refl _); have ha5o := apart_of_lt hoo4 hon5 (Nat.le_refl _))
           | (at_builtin; refine wpList_cat elInt rfl _ _ rfl hon5 rfl (own_cut (k := q + 1) hol5 (by omega) (fun h => by rw [if_neg (by omega), Nat.mul_one])) rfl (fun u hu => iv_one _ _ (List.mem_of_mem_drop hu)) (by unfold maxLen; omega) (by omega) p5.larger ?_; intro A9 c9 w9 hon9 p9))
         go_roundw
         case rel =>
           refine ⟨j + 1, k - 1, ls.eraseIdx q, os ++ [x], A9, A4, c9, c4, ?_, by omega, by omega, by go_num, by rw [show k - 1 = q + (k - (q + 1)) by omega], rfl, ?_, ?_, (p9.apart hoo5 ha5o).symm, ?_, ?_⟩
           · show _ = _; have := hjk.out; omega
           · have h := own_more (base := w.heap.size) hon9 hsz4
             rw [iv_erase, show q + (k - (q + 1)) = k - 1 by omega] at h
             exact h
           · rw [iv_append]
             exact p9.keep hoo5 ha5o
           · show _ = _
             rw [List.append_assoc, List.singleton_append, ← ord_step_at ls ps j q x (by rw [hlk.out]; exact hq.out) hxq.out]
             exact heq.out
           · exact p9.below hon5 hB5 hsz4 (Nat.le_trans hsz4 p5.larger)
         case measure => simp [slLen]; omega
     · have hk0 : k = 0 := by omega
       subst hk0
       obtain rfl : n = j := by have := hjk.out; omega
       have hls : ls = [] := List.eq_nil_of_length_eq_zero (by have := hol.1; simpa [iv] using this)
       subst hls
       have hos : Hid (os = ord (upto n) ps) := by show _ = _; have := heq.out; rw [ord_nil, List.append_nil] at this; exact this
       clear hol
       go_wp2
       go_ret2
       exact ⟨A8, c8, rfl, by rw [← hos.out]; exact hoo, hB⟩
end Go.Proofs.Ytpkhlikeggolbaa
