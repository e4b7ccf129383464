/-
  The walks of turn's ordering of messages.
-/
import Derived.Test.YtgphijfcmegdaaaTrOrd
namespace Go.Proofs.Ytgphijfcmegdaaa
open Go.RowKit

set_option maxRecDepth 100000 in
theorem orderedM_c (bi bp : Nat) (A : Option Addr) (n c : Nat) (xs : List Msg) (ps : List Int) (m d : Nat) (C : Option Addr) (w : World) (hr : Reads w w.heap.size 4 A n (mv xs)) (hn : n ≤ 1000000)
    (hi : w.cell? ⟨bi, 0, none⟩ = some (.int .i64 ((0 : Int) - 1))) (hif : w.frozen? ⟨bi, 0, none⟩ = false)
    (hp : w.cell? ⟨bp, 0, none⟩ = some (.slice C m d)) (hbp : bi ≠ bp) (hm : m ≤ maxLen) (hrp : Reads w w.heap.size 1 C m (iv ps)) (hbi : 0 < m → ∀ a, C = some a → a.block ≠ bi) :
    Calls Try.prog 29 #[.slice A n c, .func (.func 49) #[] #[.pointer (some ⟨bi, 0, none⟩), .pointer (some ⟨bp, 0, none⟩)]] w fun e w' =>
      ∃ A' c', e = .returned (.slice A' n c') ∧ w'.ownsRow (w.heap.size + 1) 31 4 (.slice A' n c') n (mv (ord xs ps)) ∧ Below bi w w' := by
  obtain ⟨i0, hi0, hz0, hz1, hz2⟩ := info_parts infoMail
  have hl := hr.mail_len
  go_enter Try.func29, Try.ntmps29
  go_wp2_with (first
    | (at_make; refine wpList_make_full _ rfl _ _ 22 rfl w.heap.size 31 i0 _ 4 Try.underlying22 hi0 hz0 hz1 _ _ _ _ n rfl rfl rfl rfl (by rw [hz2]; omega) (by unfold maxLen; omega) (Nat.le_refl _) ?_; intro w1 hown1 hg1)
    | (with_reducible refine wpList_copy elMail rfl _ _ rfl hown1 rfl (hr.grown_ hg1 (Nat.le_refl _) (fun _ _ _ h => by cases h)) rfl 0 (fun _ => by simp) (by omega) (mv_one _) ?_; intro w2 hown2 hg2))
  have hB2 : Below w.heap.size w w2 := ((Below.refl _ _).grown hg1 (Nat.le_refl _) (fun _ h => by cases h)).grown hg2 hg1.size (fun g h => by injection h; omega)
  have hO : w.grownBy w2 (some bi) := only_of_below hB2 _
  have hown : w2.ownsRow w.heap.size 31 4 (.slice (some ⟨w.heap.size, 0, none⟩) n n) n (mv xs) := by
    rw [Nat.zero_mul, splice_full _ _ _ (by rw [Array.length_toList, size_madeCells, mv_len, hl]) (by rw [mv_len]; omega)] at hown2
    exact hown2
  have hsz : w.heap.size < w2.heap.size := (own_lt hown _ rfl).2
  clear hown2 hg1 hg2 hown1
  have HR := Lib.hid hr
  have HL := Lib.hid hl
  clear hr hl
  go_loopw [6, 5] (fun out left wr => ∃ (j k : Nat) (ls os : List Msg) (A6 : Option Addr) (c6 : Nat), Hid (j + k = n) ∧ j ≤ n ∧ k ≤ n ∧ left = .slice (some ⟨w.heap.size, 0, none⟩) k n ∧ out = .slice A6 j c6 ∧
      wr.ownsRow w.heap.size 31 4 (.slice (some ⟨w.heap.size, 0, none⟩) k n) k (mv ls) ∧ wr.ownsRow (w.heap.size + 1) 31 4 (.slice A6 j c6) j (mv os) ∧
      Hid (os ++ ord ls (ps.drop j) = ord xs ps) ∧ wr.cell? ⟨bi, 0, none⟩ = some (.int .i64 ((j : Int) - 1)) ∧ wr.frozen? ⟨bi, 0, none⟩ = false ∧ w.grownBy wr (some bi))
    (fun _ left _ => slLen left)
  case atStart =>
    have hbl : bi < w.heap.size := block_lt_of_cell hi
    refine ⟨0, n, xs, [], none, 0, Nat.zero_add _, Nat.zero_le _, Nat.le_refl _, rfl, rfl, hown, own_nil, rfl, ?_, ?_, hO⟩
    · rw [hB2.cell (p := ⟨bi, 0, none⟩) hbl, hi]; rfl
    · rw [hB2.frozen (p := ⟨bi, 0, none⟩) hbl]; exact hif
  case round =>
    obtain ⟨j, k, ls, os, A6, c6, hjk, hj, hk, rfl, rfl, hol, hoo, heq, hci, hcf, hO⟩ := hrel
    have hcp : wr.cell? ⟨bp, 0, none⟩ = some (.slice C m d) := (only_cell hO (block_lt_of_cell hp) (by simpa using Ne.symm hbp)).trans hp
    have hrw : Reads wr w.heap.size 1 C m (iv ps) := hrp.grown_ hO (Nat.le_refl _) (fun h a ha e => hbi h a ha (by injection e))
    have hbl : bi < w.heap.size := block_lt_of_cell hi
    by_cases hlt : 0 < k
    · have hjn : j < n := by have := hjk.out; omega
      obtain ⟨q, hq⟩ : ∃ q, Hid (pickAt k (ps[j]?.getD 0) = q) := ⟨_, rfl⟩
      have hqk : q < k := by rw [← hq.out]; exact pickAt_lt _ _ hlt
      have hx : Hid (∀ w3, wr.grownBy w3 (some bi) → w3.ownsRow w.heap.size 31 4 (.slice (some ⟨w.heap.size, 0, none⟩) k n) k (mv ls) ∧ w3.ownsRow (w.heap.size + 1) 31 4 (.slice A6 j c6) j (mv os)) := fun w3 h3 =>
        ⟨own_only hol h3 (fun a ha e => by have := (own_lt hol a ha).1; injection e; omega), own_only hoo h3 (fun a ha e => by have := (own_lt hoo a ha).1; injection e; omega)⟩
      have hlk : Hid (ls.length = k) := by show _ = _; have := hol.1; rw [mv_len] at this; omega
      clear hol hoo
      go_wp2_with (first
        | (go_at_call 49; refine (next_c bi bp k j m d C ps _ (by omega) (by omega) (by omega) hm hci hcf hcp hbp hrw hbi q hq).mono ?_; rintro e w3 ⟨rfl, hO3, hci3, hcf3, hs3⟩; have hol3 := (hx.out w3 hO3).1; have hoo3 := (hx.out w3 hO3).2; obtain ⟨x, hxq, hcx0, hcx1, hcx2, hcx3⟩ := own_mail_at hol3 hqk)
        | (at_builtin; have hbs := (own_lt hol3 _ rfl).2; go_must (refine wpList_push elMail rfl _ _ rfl hoo3 rfl _ rfl rfl (mc_one x) (by unfold maxLen; omega) (by omega) hbs ?_; intro A4 c4 w4 hoo4 p4)))
      have f1 : (0 : Int) ≤ (q : Int) := by omega
      have f2 : (q : Int) ≤ (k : Int) := by omega
      have f3 : (0 : Int) ≤ (q : Int) + 1 := by omega
      have f4 : (q : Int) + 1 ≤ (k : Int) := by omega
      have f5 : IntKind.i64.wrap ((q : Int) + 1) = (q : Int) + 1 := IntWalk.i64_in _ (by omega)
      have f6 : ((q : Int) + 1).toNat = q + 1 := by omega
      have hol4 : w4.ownsRow w.heap.size 31 4 (.slice (some ⟨w.heap.size, 0, none⟩) k n) k (mv ls) :=
        p4.keep hol3 (fun a b ha hb => by cases ha; have := (own_lt hoo3 b hb).1; show w.heap.size ≠ b.block; omega)
      have hB4 : Below w.heap.size w3 w4 := p4.below hoo3 (Below.refl _ _) (Nat.le_succ _) (Nat.le_of_lt (own_lt hol3 _ rfl).2)
      go_still_tail 7, (by kernel_rfl)
      obtain ⟨w5, hw5⟩ : ∃ w5, w5 = w4.drew := ⟨_, rfl⟩
      show wpList _ _ _ _ _ w4.drew
      have hol5 : w5.ownsRow w.heap.size 31 4 (.slice (some ⟨w.heap.size, 0, none⟩) k n) k (mv ls) := by rw [hw5]; exact hol4.drew
      have hoo5 : w5.ownsRow (w.heap.size + 1) 31 4 (.slice A4 (j + 1) c4) (j + 1) (mv os ++ mc x) := by rw [hw5]; exact hoo4.drew
      rw [← hw5]
      clear f1 f2 f3 f4 f5 f6
      go_wp2_with (with_reducible refine wpList_copy elMail rfl _ _ rfl hol5 rfl (own_cut (k := q + 1) hol5 (by omega) (fun h => by rw [if_neg (by omega)])) rfl q (fun h => by rw [if_neg (by omega)]) (by omega) (fun u hu => mv_one _ _ (List.mem_of_mem_drop hu)) ?_; intro w6 hol6 hg6)
      have hB5 : Below w.heap.size w3 w5 := by rw [hw5]; exact hB4.drew
      have hB6 : Below w.heap.size w3 w6 := hB5.grown hg6 (Nat.le_of_lt (own_lt hol5 _ rfl).2) (fun g h => by injection h; omega)
      go_roundw
      case rel =>
        refine ⟨j + 1, k - 1, ls.eraseIdx q, os ++ [x], A4, c4, ?_, by omega, by omega, rfl, rfl, ?_, ?_, ?_, ?_, ?_, ?_⟩
        · show _ = _; have := hjk.out; omega
        · have h := own_shorter (k := k - 1) hol6 (by omega) (by simp)
          rw [splice_shift _ _ _ _ (own_len hol5) hqk, mv_erase] at h
          exact h
        · rw [mv_append, show mv [x] = mc x by simp [mv]]
          exact own_only hoo5 hg6 (fun a ha e => by have := (own_lt hoo5 a ha).1; injection e; omega)
        · show _ = _
          rw [List.append_assoc, List.singleton_append, ← ord_step_at ls ps j q x (by rw [hlk.out]; exact hq.out) hxq.out]
          exact heq.out
        · rw [hB6.cell (p := ⟨bi, 0, none⟩) hbl, hci3]
          congr 2; omega
        · rw [hB6.frozen (p := ⟨bi, 0, none⟩) hbl]; exact hcf3
        · exact only_trans_below (hO.trans hO3) hB6
      case measure => simp [slLen]; omega
    · have hk0 : k = 0 := by omega
      subst hk0
      obtain rfl : j = n := by have := hjk.out; omega
      have hls : ls = [] := List.eq_nil_of_length_eq_zero (by have := hol.1; rw [mv_len] at this; omega)
      subst hls
      have hos : Hid (os = ord xs ps) := by show _ = _; have := heq.out; rw [ord_nil, List.append_nil] at this; exact this
      have hB : Below bi w wr := only_below hO (Nat.le_refl _) (by omega)
      clear hci hcf hcp hO hol
      go_wp2
      go_ret
      exact ⟨A6, c6, rfl, by rw [← hos.out]; exact hoo, hB⟩
end Go.Proofs.Ytgphijfcmegdaaa
