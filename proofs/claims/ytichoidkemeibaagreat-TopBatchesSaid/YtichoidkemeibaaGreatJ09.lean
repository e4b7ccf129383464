/-
  The walks of turn's ordering.
  The walks of turn's ordering of messages.
  The walks of turn's exported functions.
-/
import Derived.Test.YtichoidkemeibaaGreatProg
import Derived.Test.YtichoidkemeibaaGreatJ01
import Derived.Test.YtichoidkemeibaaGreatJ08
import Derived.StillTailTactics
namespace Go.Proofs.YtichoidkemeibaaGreat
open Go.RowKit

set_option maxRecDepth 100000 in
/-- The closure that tells the next pick. -/
theorem next_c (bi bp : Nat) (left k m c : Nat) {B : Nat} (A : Option Addr) (ps : List Int) (w : World) (h1 : 1 ≤ left) (h2 : left ≤ 9223372036854775807) (hk : k ≤ 4611686018427387904) (hm : m ≤ maxLen)
    (hi : w.cell? ⟨bi, 0, none⟩ = some (.int .i64 ((k : Int) - 1))) (hif : w.frozen? ⟨bi, 0, none⟩ = false)
    (hp : w.cell? ⟨bp, 0, none⟩ = some (.slice A m c)) (hbp : bi ≠ bp) (hr : Reads w B 1 A m (iv ps)) (hbi : 0 < m → ∀ a, A = some a → a.block ≠ bi) (q : Nat) (hq : Hid (pickAt left (ps[k]?.getD 0) = q)) :
    Calls Tryz.prog 121 #[.int .i64 left, .pointer (some ⟨bi, 0, none⟩), .pointer (some ⟨bp, 0, none⟩)] w fun e w' =>
      e = .returned (.int .i64 q) ∧ w.grownBy w' (some bi) ∧ w'.cell? ⟨bi, 0, none⟩ = some (.int .i64 k) ∧ w'.frozen? ⟨bi, 0, none⟩ = false ∧ w.heap.size = w'.heap.size := by
  have hW : w.grownBy (w.setCell ⟨bi, 0, none⟩ (.int .i64 k)) (some bi) ∧ (w.setCell ⟨bi, 0, none⟩ (.int .i64 k)).cell? ⟨bi, 0, none⟩ = some (.int .i64 k) ∧ (w.setCell ⟨bi, 0, none⟩ (.int .i64 k)).frozen? ⟨bi, 0, none⟩ = false ∧ w.heap.size = (w.setCell ⟨bi, 0, none⟩ (.int .i64 k)).heap.size :=
    ⟨only_setCell (only_refl _ _) (.inl rfl) _, World.cell?_setCell_same' _ _ _ (by rw [hi]; rfl), by rw [World.frozen?_setCell]; exact hif, by simp⟩
  have HW := Lib.hid hW
  clear hW
  unfold maxLen at hm
  have hl := hr.int_len
  by_cases hlt : k < m
  · obtain ⟨a, o, x, rfl, hx, hc⟩ := hr.int_at hlt
    have hab := hbi (by omega) _ rfl
    have hc' : (w.setCell ⟨bi, 0, none⟩ (.int .i64 k)).cell? ⟨a, o + k, none⟩ = some (.int .i64 x) := by
      rw [World.cell?_setCell_other _ _ _ _ (fun e => hab (congrArg Addr.block e).symm)]; exact hc
    clear hbi hr hl hc
    have HE := Lib.hid (pickAt_cast left x (by omega))
    go_enter Tryz.func121, Tryz.ntmps121
    go_wp2_with (go_at_call 122; refine (pick_yes _ _ _ (by omega) (by omega)).mono ?_; rintro e w' ⟨rfl, rfl⟩)
    go_ret
    refine ⟨ret_int ?_, HW.out⟩
    rw [← hq.out, hx.out]; exact HE.out.symm
  · have hx : Hid (ps[k]?.getD 0 = 0) := by show _ = _; rw [List.getElem?_eq_none (by omega)]; rfl
    clear hbi hr hl
    go_enter Tryz.func121, Tryz.ntmps121
    go_wp2
    go_ret
    exact ⟨ret_int (by rw [← hq.out, hx.out, pickAt_zero]; rfl), HW.out⟩

theorem infoInt : (Tryz.prog.info? 3).map (fun i => (i.zero, i.size, i.bytes)) = some (some (.int .i64 0), 1, 8) := by kernel_rfl

set_option maxRecDepth 100000 in
theorem ordered_c (bi bp : Nat) (A : Option Addr) (n c : Nat) (xs ps : List Int) (m d : Nat) (C : Option Addr) (w : World) (hr : Reads w w.heap.size 1 A n (iv xs)) (hn : n ≤ 1000000)
    (hi : w.cell? ⟨bi, 0, none⟩ = some (.int .i64 ((0 : Int) - 1))) (hif : w.frozen? ⟨bi, 0, none⟩ = false)
    (hp : w.cell? ⟨bp, 0, none⟩ = some (.slice C m d)) (hbp : bi ≠ bp) (hm : m ≤ maxLen) (hrp : Reads w w.heap.size 1 C m (iv ps)) (hbi : 0 < m → ∀ a, C = some a → a.block ≠ bi) :
    Calls Tryz.prog 84 #[.slice A n c, .func (.func 121) #[] #[.pointer (some ⟨bi, 0, none⟩), .pointer (some ⟨bp, 0, none⟩)]] w fun e w' =>
      ∃ A' c', e = .returned (.slice A' n c') ∧ w'.ownsRow (w.heap.size + 1) 3 1 (.slice A' n c') n (iv (ord xs ps)) ∧ Below bi w w' := by
  obtain ⟨i0, hi0, hz0, hz1, hz2⟩ := info_parts infoInt
  have hl := hr.int_len
  go_enter Tryz.func84, Tryz.ntmps84
  go_wp2_with (first
    | (at_make; refine wpList_make_full _ rfl _ _ 25 rfl w.heap.size 3 i0 _ 1 Tryz.underlying25 hi0 hz0 hz1 _ _ _ _ n rfl rfl rfl rfl (by rw [hz2]; omega) (by unfold maxLen; omega) (Nat.le_refl _) ?_; intro w1 hown1 hg1)
    | (with_reducible refine wpList_copy elInt rfl _ _ rfl hown1 rfl (hr.grown_ hg1 (Nat.le_refl _) (fun _ _ _ h => by cases h)) rfl 0 (fun _ => by simp) (by omega) (iv_one _) ?_; intro w2 hown2 hg2))
  have hB2 : Below w.heap.size w w2 := ((Below.refl _ _).grown hg1 (Nat.le_refl _) (fun _ h => by cases h)).grown hg2 hg1.size (fun g h => by injection h; omega)
  have hO : w.grownBy w2 (some bi) := only_of_below hB2 _
  have hown : w2.ownsRow w.heap.size 3 1 (.slice (some ⟨w.heap.size, 0, none⟩) n n) n (iv xs) := by
    rw [Nat.zero_mul, splice_full _ _ _ (by rw [Array.length_toList, size_madeCells, iv_len, Nat.mul_one]; exact hl.symm) (by rw [iv_len]; omega)] at hown2
    exact hown2
  have hsz : w.heap.size < w2.heap.size := (own_lt hown _ rfl).2
  clear hown2 hg1 hg2 hown1
  have HR := Lib.hid hr
  have HL := Lib.hid hl
  clear hr hl
  go_loopw [6, 5] (fun out left wr => ∃ (j k : Nat) (ls os : List Int) (A6 : Option Addr) (c6 : Nat), Hid (j + k = n) ∧ j ≤ n ∧ k ≤ n ∧ left = .slice (some ⟨w.heap.size, 0, none⟩) k n ∧ out = .slice A6 j c6 ∧
      wr.ownsRow w.heap.size 3 1 (.slice (some ⟨w.heap.size, 0, none⟩) k n) k (iv ls) ∧ wr.ownsRow (w.heap.size + 1) 3 1 (.slice A6 j c6) j (iv os) ∧
      Hid (os ++ ord ls (ps.drop j) = ord xs ps) ∧ wr.cell? ⟨bi, 0, none⟩ = some (.int .i64 ((j : Int) - 1)) ∧ wr.frozen? ⟨bi, 0, none⟩ = false ∧ w.grownBy wr (some bi))
    (fun _ left _ => slLen left)
  case atStart =>
    have hbl : bi < w.heap.size := block_lt_of_cell hi
    refine ⟨0, n, xs, [], none, 0, Nat.zero_add _, Nat.zero_le _, Nat.le_refl _, rfl, rfl, hown, own_nil, rfl, ?_, ?_, hO⟩
    · rw [hB2.cell (p := ⟨bi, 0, none⟩) hbl, hi]; rfl
    · rw [hB2.frozen (p := ⟨bi, 0, none⟩) hbl]; exact hif
  case round =>
    obtain ⟨j, k, ls, os, A6, c6, hjk, hj, hk, rfl, rfl, hol, hoo, heq, hci, hcf, hO⟩ := hrel
    have hcp : wr.cell? ⟨bp, 0, none⟩ = some (.slice C m d) := (only_cell hO (block_lt_of_cell hp) (by simpa using Ne.symm hbp)).trans hp
    have hrw : Reads wr w.heap.size 1 C m (iv ps) := hrp.grown_ hO (Nat.le_refl _) (fun h a ha e => hbi h a ha (by injection e))
    have hbl : bi < w.heap.size := block_lt_of_cell hi
    by_cases hlt : 0 < k
    · have hjn : j < n := by have := hjk.out; omega
      obtain ⟨q, hq⟩ : ∃ q, Hid (pickAt k (ps[j]?.getD 0) = q) := ⟨_, rfl⟩
      have hqk : q < k := by rw [← hq.out]; exact pickAt_lt _ _ hlt
      have hx : Hid (∀ w3, wr.grownBy w3 (some bi) → w3.ownsRow w.heap.size 3 1 (.slice (some ⟨w.heap.size, 0, none⟩) k n) k (iv ls) ∧ w3.ownsRow (w.heap.size + 1) 3 1 (.slice A6 j c6) j (iv os)) := fun w3 h3 =>
        ⟨own_only hol h3 (fun a ha e => by have := (own_lt hol a ha).1; injection e; omega), own_only hoo h3 (fun a ha e => by have := (own_lt hoo a ha).1; injection e; omega)⟩
      have hlk : Hid (ls.length = k) := by show _ = _; have := hol.1; simpa [iv] using this
      clear hol hoo
      go_wp2_with (first
        | (go_at_call 121; refine (next_c bi bp k j m d C ps _ (by omega) (by omega) (by omega) hm hci hcf hcp hbp hrw hbi q hq).mono ?_; rintro e w3 ⟨rfl, hO3, hci3, hcf3, hs3⟩; have hol3 := (hx.out w3 hO3).1; have hoo3 := (hx.out w3 hO3).2; obtain ⟨x, hxq, hcx⟩ := own_int_at hol3 hqk)
        | (at_builtin; have hbs := (own_lt hol3 _ rfl).2; go_must (refine wpList_push elInt rfl _ _ rfl hoo3 rfl _ rfl rfl (one_int _ _) (by unfold maxLen; omega) (by omega) hbs ?_; intro A4 c4 w4 hoo4 p4)))
      have f1 : (0 : Int) ≤ (q : Int) := by omega
      have f2 : (q : Int) ≤ (k : Int) := by omega
      have f3 : (0 : Int) ≤ (q : Int) + 1 := by omega
      have f4 : (q : Int) + 1 ≤ (k : Int) := by omega
      have f5 : IntKind.i64.wrap ((q : Int) + 1) = (q : Int) + 1 := IntWalk.i64_in _ (by omega)
      have f6 : ((q : Int) + 1).toNat = q + 1 := by omega
      have hol4 : w4.ownsRow w.heap.size 3 1 (.slice (some ⟨w.heap.size, 0, none⟩) k n) k (iv ls) :=
        p4.keep hol3 (fun a b ha hb => by cases ha; have := (own_lt hoo3 b hb).1; show w.heap.size ≠ b.block; omega)
      have hB4 : Below w.heap.size w3 w4 := p4.below hoo3 (Below.refl _ _) (Nat.le_succ _) (Nat.le_of_lt (own_lt hol3 _ rfl).2)
      go_still_tail 7, (by kernel_rfl)
      obtain ⟨w5, hw5⟩ : ∃ w5, w5 = w4.drew := ⟨_, rfl⟩
      show wpList _ _ _ _ _ w4.drew
      have hol5 : w5.ownsRow w.heap.size 3 1 (.slice (some ⟨w.heap.size, 0, none⟩) k n) k (iv ls) := by rw [hw5]; exact hol4.drew
      have hoo5 : w5.ownsRow (w.heap.size + 1) 3 1 (.slice A4 (j + 1) c4) (j + 1) (iv os ++ #[Value.int .i64 x].toList) := by rw [hw5]; exact hoo4.drew
      rw [← hw5]
      clear f1 f2 f3 f4 f5 f6
      go_wp2_with (with_reducible refine wpList_copy elInt rfl _ _ rfl hol5 rfl (own_cut (k := q + 1) hol5 (by omega) (fun h => by rw [if_neg (by omega), Nat.mul_one])) rfl q (fun h => by rw [if_neg (by omega), Nat.mul_one]) (by omega) (fun u hu => iv_one _ _ (List.mem_of_mem_drop hu)) ?_; intro w6 hol6 hg6)
      have hB5 : Below w.heap.size w3 w5 := by rw [hw5]; exact hB4.drew
      have hB6 : Below w.heap.size w3 w6 := hB5.grown hg6 (Nat.le_of_lt (own_lt hol5 _ rfl).2) (fun g h => by injection h; omega)
      go_roundw
      case rel =>
        refine ⟨j + 1, k - 1, ls.eraseIdx q, os ++ [x], A4, c4, ?_, by omega, by omega, rfl, rfl, ?_, ?_, ?_, ?_, ?_, ?_⟩
        · show _ = _; have := hjk.out; omega
        · have h := own_shorter (k := k - 1) hol6 (by omega) (by simp)
          rw [splice_shift _ _ _ _ (own_len hol5) hqk, iv_erase] at h
          exact h
        · rw [iv_append]
          exact own_only hoo5 hg6 (fun a ha e => by have := (own_lt hoo5 a ha).1; injection e; omega)
        · show _ = _
          rw [List.append_assoc, List.singleton_append, ← ord_step_at ls ps j q x (by rw [hlk.out]; exact hq.out) hxq.out]
          exact heq.out
        · rw [hB6.cell (p := ⟨bi, 0, none⟩) hbl, hci3]
          congr 2; omega
        · rw [hB6.frozen (p := ⟨bi, 0, none⟩) hbl]; exact hcf3
        · exact only_trans_below (hO.trans hO3) hB6
      case measure => simp [slLen]; omega
    · have hk0 : k = 0 := by omega
      subst hk0
      obtain rfl : j = n := by have := hjk.out; omega
      have hls : ls = [] := List.eq_nil_of_length_eq_zero (by have := hol.1; simpa [iv] using this)
      subst hls
      have hos : Hid (os = ord xs ps) := by show _ = _; have := heq.out; rw [ord_nil, List.append_nil] at this; exact this
      have hB : Below bi w wr := only_below hO (Nat.le_refl _) (by omega)
      clear hci hcf hcp hO hol
      go_wp2
      go_ret
      exact ⟨A6, c6, rfl, by rw [← hos.out]; exact hoo, hB⟩
end Go.Proofs.YtichoidkemeibaaGreat

namespace Go.Proofs.YtichoidkemeibaaGreat
open Go.RowKit

set_option maxRecDepth 100000 in
theorem orderedM_c (bi bp : Nat) (A : Option Addr) (n c : Nat) (xs : List Msg) (ps : List Int) (m d : Nat) (C : Option Addr) (w : World) (hr : Reads w w.heap.size 4 A n (mv xs)) (hn : n ≤ 1000000)
    (hi : w.cell? ⟨bi, 0, none⟩ = some (.int .i64 ((0 : Int) - 1))) (hif : w.frozen? ⟨bi, 0, none⟩ = false)
    (hp : w.cell? ⟨bp, 0, none⟩ = some (.slice C m d)) (hbp : bi ≠ bp) (hm : m ≤ maxLen) (hrp : Reads w w.heap.size 1 C m (iv ps)) (hbi : 0 < m → ∀ a, C = some a → a.block ≠ bi) :
    Calls Tryz.prog 88 #[.slice A n c, .func (.func 121) #[] #[.pointer (some ⟨bi, 0, none⟩), .pointer (some ⟨bp, 0, none⟩)]] w fun e w' =>
      ∃ A' c', e = .returned (.slice A' n c') ∧ w'.ownsRow (w.heap.size + 1) 44 4 (.slice A' n c') n (mv (ord xs ps)) ∧ Below bi w w' := by
  obtain ⟨i0, hi0, hz0, hz1, hz2⟩ := info_parts infoMail
  have hl := hr.mail_len
  go_enter Tryz.func88, Tryz.ntmps88
  go_wp2_with (first
    | (at_make; refine wpList_make_full _ rfl _ _ 34 rfl w.heap.size 44 i0 _ 4 Tryz.underlying34 hi0 hz0 hz1 _ _ _ _ n rfl rfl rfl rfl (by rw [hz2]; omega) (by unfold maxLen; omega) (Nat.le_refl _) ?_; intro w1 hown1 hg1)
    | (with_reducible refine wpList_copy elMail rfl _ _ rfl hown1 rfl (hr.grown_ hg1 (Nat.le_refl _) (fun _ _ _ h => by cases h)) rfl 0 (fun _ => by simp) (by omega) (mv_one _) ?_; intro w2 hown2 hg2))
  have hB2 : Below w.heap.size w w2 := ((Below.refl _ _).grown hg1 (Nat.le_refl _) (fun _ h => by cases h)).grown hg2 hg1.size (fun g h => by injection h; omega)
  have hO : w.grownBy w2 (some bi) := only_of_below hB2 _
  have hown : w2.ownsRow w.heap.size 44 4 (.slice (some ⟨w.heap.size, 0, none⟩) n n) n (mv xs) := by
    rw [Nat.zero_mul, splice_full _ _ _ (by rw [Array.length_toList, size_madeCells, mv_len, hl]) (by rw [mv_len]; omega)] at hown2
    exact hown2
  have hsz : w.heap.size < w2.heap.size := (own_lt hown _ rfl).2
  clear hown2 hg1 hg2 hown1
  have HR := Lib.hid hr
  have HL := Lib.hid hl
  clear hr hl
  go_loopw [6, 5] (fun out left wr => ∃ (j k : Nat) (ls os : List Msg) (A6 : Option Addr) (c6 : Nat), Hid (j + k = n) ∧ j ≤ n ∧ k ≤ n ∧ left = .slice (some ⟨w.heap.size, 0, none⟩) k n ∧ out = .slice A6 j c6 ∧
      wr.ownsRow w.heap.size 44 4 (.slice (some ⟨w.heap.size, 0, none⟩) k n) k (mv ls) ∧ wr.ownsRow (w.heap.size + 1) 44 4 (.slice A6 j c6) j (mv os) ∧
      Hid (os ++ ord ls (ps.drop j) = ord xs ps) ∧ wr.cell? ⟨bi, 0, none⟩ = some (.int .i64 ((j : Int) - 1)) ∧ wr.frozen? ⟨bi, 0, none⟩ = false ∧ w.grownBy wr (some bi))
    (fun _ left _ => slLen left)
  case atStart =>
    have hbl : bi < w.heap.size := block_lt_of_cell hi
    refine ⟨0, n, xs, [], none, 0, Nat.zero_add _, Nat.zero_le _, Nat.le_refl _, rfl, rfl, hown, own_nil, rfl, ?_, ?_, hO⟩
    · rw [hB2.cell (p := ⟨bi, 0, none⟩) hbl, hi]; rfl
    · rw [hB2.frozen (p := ⟨bi, 0, none⟩) hbl]; exact hif
  case round =>
    obtain ⟨j, k, ls, os, A6, c6, hjk, hj, hk, rfl, rfl, hol, hoo, heq, hci, hcf, hO⟩ := hrel
    have hcp : wr.cell? ⟨bp, 0, none⟩ = some (.slice C m d) := (only_cell hO (block_lt_of_cell hp) (by simpa using Ne.symm hbp)).trans hp
    have hrw : Reads wr w.heap.size 1 C m (iv ps) := hrp.grown_ hO (Nat.le_refl _) (fun h a ha e => hbi h a ha (by injection e))
    have hbl : bi < w.heap.size := block_lt_of_cell hi
    by_cases hlt : 0 < k
    · have hjn : j < n := by have := hjk.out; omega
      obtain ⟨q, hq⟩ : ∃ q, Hid (pickAt k (ps[j]?.getD 0) = q) := ⟨_, rfl⟩
      have hqk : q < k := by rw [← hq.out]; exact pickAt_lt _ _ hlt
      have hx : Hid (∀ w3, wr.grownBy w3 (some bi) → w3.ownsRow w.heap.size 44 4 (.slice (some ⟨w.heap.size, 0, none⟩) k n) k (mv ls) ∧ w3.ownsRow (w.heap.size + 1) 44 4 (.slice A6 j c6) j (mv os)) := fun w3 h3 =>
        ⟨own_only hol h3 (fun a ha e => by have := (own_lt hol a ha).1; injection e; omega), own_only hoo h3 (fun a ha e => by have := (own_lt hoo a ha).1; injection e; omega)⟩
      have hlk : Hid (ls.length = k) := by show _ = _; have := hol.1; rw [mv_len] at this; omega
      clear hol hoo
      go_wp2_with (first
        | (go_at_call 121; refine (next_c bi bp k j m d C ps _ (by omega) (by omega) (by omega) hm hci hcf hcp hbp hrw hbi q hq).mono ?_; rintro e w3 ⟨rfl, hO3, hci3, hcf3, hs3⟩; have hol3 := (hx.out w3 hO3).1; have hoo3 := (hx.out w3 hO3).2; obtain ⟨x, hxq, hcx0, hcx1, hcx2, hcx3⟩ := own_mail_at hol3 hqk)
        | (at_builtin; have hbs := (own_lt hol3 _ rfl).2; go_must (refine wpList_push elMail rfl _ _ rfl hoo3 rfl _ rfl rfl (mc_one x) (by unfold maxLen; omega) (by omega) hbs ?_; intro A4 c4 w4 hoo4 p4)))
      have f1 : (0 : Int) ≤ (q : Int) := by omega
      have f2 : (q : Int) ≤ (k : Int) := by omega
      have f3 : (0 : Int) ≤ (q : Int) + 1 := by omega
      have f4 : (q : Int) + 1 ≤ (k : Int) := by omega
      have f5 : IntKind.i64.wrap ((q : Int) + 1) = (q : Int) + 1 := IntWalk.i64_in _ (by omega)
      have f6 : ((q : Int) + 1).toNat = q + 1 := by omega
      have hol4 : w4.ownsRow w.heap.size 44 4 (.slice (some ⟨w.heap.size, 0, none⟩) k n) k (mv ls) :=
        p4.keep hol3 (fun a b ha hb => by cases ha; have := (own_lt hoo3 b hb).1; show w.heap.size ≠ b.block; omega)
      have hB4 : Below w.heap.size w3 w4 := p4.below hoo3 (Below.refl _ _) (Nat.le_succ _) (Nat.le_of_lt (own_lt hol3 _ rfl).2)
      go_still_tail 7, (by kernel_rfl)
      obtain ⟨w5, hw5⟩ : ∃ w5, w5 = w4.drew := ⟨_, rfl⟩
      show wpList _ _ _ _ _ w4.drew
      have hol5 : w5.ownsRow w.heap.size 44 4 (.slice (some ⟨w.heap.size, 0, none⟩) k n) k (mv ls) := by rw [hw5]; exact hol4.drew
      have hoo5 : w5.ownsRow (w.heap.size + 1) 44 4 (.slice A4 (j + 1) c4) (j + 1) (mv os ++ mc x) := by rw [hw5]; exact hoo4.drew
      rw [← hw5]
      clear f1 f2 f3 f4 f5 f6
      go_wp2_with (with_reducible refine wpList_copy elMail rfl _ _ rfl hol5 rfl (own_cut (k := q + 1) hol5 (by omega) (fun h => by rw [if_neg (by omega)])) rfl q (fun h => by rw [if_neg (by omega)]) (by omega) (fun u hu => mv_one _ _ (List.mem_of_mem_drop hu)) ?_; intro w6 hol6 hg6)
      have hB5 : Below w.heap.size w3 w5 := by rw [hw5]; exact hB4.drew
      have hB6 : Below w.heap.size w3 w6 := hB5.grown hg6 (Nat.le_of_lt (own_lt hol5 _ rfl).2) (fun g h => by injection h; omega)
      go_roundw
      case rel =>
        refine ⟨j + 1, k - 1, ls.eraseIdx q, os ++ [x], A4, c4, ?_, by omega, by omega, rfl, rfl, ?_, ?_, ?_, ?_, ?_, ?_⟩
        · show _ = _; have := hjk.out; omega
        · have h := own_shorter (k := k - 1) hol6 (by omega) (by simp)
          rw [splice_shift _ _ _ _ (own_len hol5) hqk, mv_erase] at h
          exact h
        · rw [mv_append, show mv [x] = mc x by simp [mv]]
          exact own_only hoo5 hg6 (fun a ha e => by have := (own_lt hoo5 a ha).1; injection e; omega)
        · show _ = _
          rw [List.append_assoc, List.singleton_append, ← ord_step_at ls ps j q x (by rw [hlk.out]; exact hq.out) hxq.out]
          exact heq.out
        · rw [hB6.cell (p := ⟨bi, 0, none⟩) hbl, hci3]
          congr 2; omega
        · rw [hB6.frozen (p := ⟨bi, 0, none⟩) hbl]; exact hcf3
        · exact only_trans_below (hO.trans hO3) hB6
      case measure => simp [slLen]; omega
    · have hk0 : k = 0 := by omega
      subst hk0
      obtain rfl : j = n := by have := hjk.out; omega
      have hls : ls = [] := List.eq_nil_of_length_eq_zero (by have := hol.1; rw [mv_len] at this; omega)
      subst hls
      have hos : Hid (os = ord xs ps) := by show _ = _; have := heq.out; rw [ord_nil, List.append_nil] at this; exact this
      have hB : Below bi w wr := only_below hO (Nat.le_refl _) (by omega)
      clear hci hcf hcp hO hol
      go_wp2
      go_ret
      exact ⟨A6, c6, rfl, by rw [← hos.out]; exact hoo, hB⟩
end Go.Proofs.YtichoidkemeibaaGreat

namespace Go.Proofs.YtichoidkemeibaaGreat
open Go.RowKit

set_option maxRecDepth 100000 in
theorem of_c (C : Option Addr) (m d : Nat) (w : World) :
    Calls Tryz.prog 85 #[.slice C m d] w fun e w' => e = .returned (.func (.func 121) #[] #[.pointer (some ⟨w.heap.size + 1, 0, none⟩), .pointer (some ⟨w.heap.size, 0, none⟩)]) ∧
      Below w.heap.size w w' ∧ w.heap.size + 1 < w'.heap.size ∧ w'.cell? ⟨w.heap.size + 1, 0, none⟩ = some (.int .i64 ((0 : Int) - 1)) ∧ w'.frozen? ⟨w.heap.size + 1, 0, none⟩ = false ∧ w'.cell? ⟨w.heap.size, 0, none⟩ = some (.slice C m d) := by
  have hmf : ∀ (fn : Fn) (first cap : Array Value) (w : World), (Instr.makeFunc fn first cap).run Tryz.prog w = .ok (.func fn first cap) w := fun _ _ _ _ => rfl
  have hW : Hid (∀ w', w' = (w.alloc (.cells #[.slice C m d] 25)).alloc (.cells #[.int .i64 (-1)] 3) →
      Below w.heap.size w w' ∧ w.heap.size + 1 < w'.heap.size ∧ w'.cell? ⟨w.heap.size + 1, 0, none⟩ = some (.int .i64 ((0 : Int) - 1)) ∧ w'.frozen? ⟨w.heap.size + 1, 0, none⟩ = false ∧ w'.cell? ⟨w.heap.size, 0, none⟩ = some (.slice C m d)) := by
    rintro w' rfl
    refine ⟨((Below.refl _ _).alloc (Nat.le_refl _) _).alloc (by simp) _, by simp, ?_, World.frozen?_alloc_at _ _ _ _ (by simp), ?_⟩
    · rw [World.cell?_alloc_at _ _ _ _ (by simp)]; rfl
    · rw [World.cell?_alloc_past _ _ _ (by simp), World.cell?_alloc_at _ _ _ _ rfl]; rfl
  go_enter Tryz.func85, Tryz.ntmps85
  go_wp2
  go_ret
  exact ⟨rfl, hW.out _ rfl⟩

set_option maxRecDepth 100000 in
theorem turnMails_c (A C : Option Addr) (n c m d : Nat) (xs : List Msg) (ps : List Int) (w : World) (hr : Reads w w.heap.size 4 A n (mv xs)) (hn : n ≤ 1000000) (hrp : Reads w w.heap.size 1 C m (iv ps)) (hm : m ≤ maxLen) :
    Calls Tryz.prog 49 #[.slice A n c, .slice C m d] w fun e w' =>
      ∃ A' c', e = .returned (.slice A' n c') ∧ w'.ownsRow w.heap.size 44 4 (.slice A' n c') n (mv (ord xs ps)) ∧ Below w.heap.size w w' := by
  go_enter Tryz.func49, Tryz.ntmps49
  go_wp2_with (go_at_call 85; refine (of_c _ _ _ _).mono ?_; rintro e w1 ⟨rfl, hB1, hs1, hi1, hf1, hp1⟩)
  have hrp1 : Reads w1 w1.heap.size 1 C m (iv ps) := (hrp.below hB1).more hB1.size
  have hr1 : Reads w1 w1.heap.size 4 A n (mv xs) := (hr.below hB1).more hB1.size
  have hlt : 0 < m → ∀ a, C = some a → a.block ≠ w.heap.size + 1 := fun h a ha => by have := hrp.lt_ h a ha; omega
  refine (orderedM_c (w.heap.size + 1) w.heap.size A n c xs ps m d C w1 hr1 hn hi1 hf1 hp1 (by omega) hm hrp1 hlt).mono ?_
  rintro e w2 ⟨A', c', rfl, hown, hB2⟩
  go_wp2
  go_ret
  exact ⟨A', c', rfl, own_more hown (by omega), hB1.trans (hB2.mono (by omega))⟩


theorem range_snoc (k : Nat) : (List.range (k + 1)).map (fun i : Nat => (i : Int)) = (List.range k).map (fun i : Nat => (i : Int)) ++ [(k : Int)] := by
  rw [List.range_succ, List.map_append]; rfl

/-- 0 to n-1. -/
def upto (n : Nat) : List Int := (List.range n).map fun i : Nat => (i : Int)
theorem upto_len (n : Nat) : (upto n).length = n := by simp [upto]

theorem upto_succ (k : Nat) : upto (k + 1) = upto k ++ [(k : Int)] := range_snoc k
theorem upto_get (n k : Nat) (h : k < n) : (upto n)[k]? = some (k : Int) := by
  unfold upto
  rw [List.getElem?_map, List.getElem?_range h]; rfl
theorem upto_set (k n : Nat) (h : k < n) : (iv (upto k ++ List.replicate (n - k) 0)).set k (.int .i64 (k : Int)) = iv (upto (k + 1) ++ List.replicate (n - (k + 1)) 0) := by
  obtain ⟨r, hr⟩ : ∃ r, n - k = r + 1 := ⟨n - k - 1, by omega⟩
  rw [hr, show n - (k + 1) = r by omega, upto_succ, List.replicate_succ, iv_append, iv_append, List.set_append_right _ _ (by rw [iv_len, upto_len]; exact Nat.le_refl _), iv_len, upto_len, Nat.sub_self]
  simp [iv]

theorem order_no (C : Option Addr) (n : Int) (m d : Nat) (w : World) (hn : n < 0 ∨ 1000 < n) :
    Calls Tryz.prog 44 #[.int .i64 n, .slice C m d] w fun e w' => e = .returned (.tuple #[.slice none 0 0, .int .i64 1]) ∧ w = w' := by
  rcases hn with hn | hn
  · go_enter Tryz.func44, Tryz.ntmps44
    go_wp2
    go_ret2
    exact ⟨rfl, rfl⟩
  · have hn' : ¬ n < 0 := by omega
    go_enter Tryz.func44, Tryz.ntmps44
    go_wp2
    go_ret2
    exact ⟨rfl, rfl⟩

set_option maxRecDepth 100000 in
theorem turnOrder_c (C : Option Addr) (n m d : Nat) (ps : List Int) (w : World) (hn : n ≤ 1000) (hrp : Reads w w.heap.size 1 C m (iv ps)) (hm : m ≤ maxLen) :
    Calls Tryz.prog 44 #[.int .i64 n, .slice C m d] w fun e w' =>
      ∃ A' c', e = .returned (.tuple #[.slice A' n c', .int .i64 0]) ∧ w'.ownsRow w.heap.size 3 1 (.slice A' n c') n (iv (ord (upto n) ps)) ∧ Below w.heap.size w w' := by
  obtain ⟨i0, hi0, hz0, hz1, hz2⟩ := info_parts infoInt
  have hd1 : (decide ((n : Int) < 0)) = false := by simp
  go_enter Tryz.func44, Tryz.ntmps44
  go_wp2_with (at_make; refine wpList_make_full _ rfl _ _ 25 rfl w.heap.size 3 i0 _ 1 Tryz.underlying25 hi0 hz0 hz1 _ _ _ _ n rfl rfl rfl rfl (by rw [hz2]; omega) (by unfold maxLen; omega) (Nat.le_refl _) ?_; intro w1 hown1 hg1)
  have hown : w1.ownsRow w.heap.size 3 1 (.slice (some ⟨w.heap.size, 0, none⟩) n n) n (iv (upto 0 ++ List.replicate (n - 0) 0)) := by
    have e : (madeCells (Value.int .i64 0).cells (n * 1)).toList = iv (upto 0 ++ List.replicate (n - 0) 0) := by
      rw [Nat.mul_one]
      have := toList_madeCells_one (.int .i64 0) n
      simp only [upto, List.range_zero, List.map_nil, List.nil_append, Nat.sub_zero, iv, List.map_replicate]
      exact this
    rw [← e]; exact hown1
  have hB1 : Below w.heap.size w w1 := (Below.refl _ _).grown hg1 (Nat.le_refl _) (fun _ h => by cases h)
  have hs1 : w.heap.size < w1.heap.size := (own_lt hown _ rfl).2
  clear hown1 hg1
  go_loopw [18] (fun i wr => ∃ k : Nat, k ≤ n ∧ i = .int .i64 k ∧ wr.ownsRow w.heap.size 3 1 (.slice (some ⟨w.heap.size, 0, none⟩) n n) n (iv (upto k ++ List.replicate (n - k) 0)) ∧ Below w.heap.size w wr) (fun i _ => n - (intOf i).toNat)
  case atStart => exact ⟨0, Nat.zero_le _, rfl, hown, hB1⟩
  case round =>
    obtain ⟨k, hk, rfl, ho, hB⟩ := hrel
    by_cases hlt : k < n
    · have hsz : w.heap.size ≤ wr.heap.size := hB.size
      obtain ⟨x, _, hcx⟩ := own_int_at ho hlt
      have hfx := ho.frozenAt k
      go_wp2
      go_roundw
      case rel =>
        have h := ho.stored k (.int .i64 (k : Int))
        rw [upto_set k n hlt] at h
        exact ⟨k + 1, by omega, by go_num, h.1, hB.grown h.2 hsz (fun g h => by injection h; omega)⟩
      case measure => simp [intOf]; omega
    · obtain rfl : k = n := by omega
      have ho2 : wr.ownsRow w.heap.size 3 1 (.slice (some ⟨w.heap.size, 0, none⟩) k k) k (iv (upto k)) := by
        have h := ho
        rw [Nat.sub_self, List.replicate_zero, List.append_nil] at h
        exact h
      have hlo := (own_lt ho2 _ rfl).2
      go_wp2_with (go_at_call 85; refine (of_c _ _ _ _).mono ?_; rintro e w2 ⟨rfl, hB2, hs2, hi2, hf2, hp2⟩)
      have hrp2 : Reads w2 w2.heap.size 1 C m (iv ps) := ((hrp.below hB).below (hB2.mono hB.size)).more (Nat.le_trans hB.size hB2.size)
      have ho3 := own_below ho2 hB2
      have hlt2 : 0 < m → ∀ a, C = some a → a.block ≠ wr.heap.size + 1 := fun h a ha => by have := hrp.lt_ h a ha; have := hB.size; omega
      refine (ordered_c (wr.heap.size + 1) wr.heap.size _ k k (upto k) ps m d C w2 (own_reads ho3) (by omega) hi2 hf2 hp2 (by omega) hm hrp2 hlt2).mono ?_
      rintro e w3 ⟨A', c', rfl, hown3, hB3⟩
      go_wp2
      go_ret2
      exact ⟨A', c', rfl, own_more hown3 (by have := hB.size; omega), hB.trans ((hB2.mono hB.size).trans (hB3.mono (by have := hB.size; omega)))⟩
end Go.Proofs.YtichoidkemeibaaGreat
