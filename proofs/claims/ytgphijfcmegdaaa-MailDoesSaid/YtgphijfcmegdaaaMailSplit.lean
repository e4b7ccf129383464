/-
  Split: the program's and the reference's; the same of rows of rows.
-/
import Derived.Test.YtgphijfcmegdaaaMailSplit0
import Derived.Test.YtgphijfcmegdaaaMailComb
import Derived.Test.YtgphijfcmegdaaaRowsL
import Derived.Deep.RegionLaw
import Derived.Lib.QuietBelow
namespace Go.Proofs.Ytgphijfcmegdaaa
open Go.RowKit

theorem elRow : Elem Try.prog 36 22 1 24 := Elem.mk_ Try.underlying36 (z := .slice none 0 0) (by kernel_rfl) rfl (by decide)
theorem infoRow : (Try.prog.info? 22).map (fun i => (i.zero, i.size, i.bytes)) = some (some (.slice none 0 0), 1, 24) := by kernel_rfl

def homeN (m : Msg) (k : Nat) : Nat := (homeI m.v k).toNat
/-- The messages whose home is worker i. -/
def ofHome (l : List Msg) (k i : Nat) : List Msg := l.filter fun m => homeN m k == i
def parted (l : List Msg) (k : Nat) : List (List Msg) := (List.range k).map fun i => ofHome l k i
def mvs (l : List (List Msg)) : List (List Value) := l.map mv

theorem parted_len (l : List Msg) (k : Nat) : (parted l k).length = k := by simp [parted]
theorem parted_get (l : List Msg) (k i : Nat) (h : i < k) : (parted l k)[i]? = some (ofHome l k i) := by
  rw [parted, List.getElem?_map, List.getElem?_range h]; rfl
theorem parted_nil (k : Nat) : parted [] k = List.replicate k [] := by
  apply List.ext_getElem?
  intro i
  by_cases h : i < k
  · rw [parted_get _ _ _ h, List.getElem?_replicate, if_pos h]; rfl
  · rw [List.getElem?_eq_none (by rw [parted_len]; omega), List.getElem?_eq_none (by simp; omega)]
theorem ofHome_snoc (l : List Msg) (x : Msg) (k i : Nat) : ofHome (l ++ [x]) k i = if homeN x k = i then ofHome l k i ++ [x] else ofHome l k i := by
  unfold ofHome
  rw [List.filter_append]
  by_cases h : homeN x k = i
  · simp [h]
  · simp [h]
theorem parted_snoc (l : List Msg) (x : Msg) (k : Nat) (h : homeN x k < k) : parted (l ++ [x]) k = (parted l k).set (homeN x k) (ofHome l k (homeN x k) ++ [x]) := by
  apply List.ext_getElem?
  intro i
  by_cases hi : i < k
  · rw [parted_get _ _ _ hi, List.getElem?_set, ofHome_snoc]
    by_cases he : homeN x k = i
    · subst he
      rw [if_pos rfl, if_pos rfl, if_pos (by rw [parted_len]; exact h)]
    · rw [if_neg he, if_neg he, parted_get _ _ _ hi]
  · rw [List.getElem?_eq_none (by rw [parted_len]; omega), List.getElem?_eq_none (by rw [List.length_set, parted_len]; omega)]
theorem ofHome_le (l : List Msg) (k i : Nat) : (ofHome l k i).length ≤ l.length := List.length_filter_le _ _

theorem home_lt {m : Msg} {k : Nat} (h : mayM m) (h1 : 1 ≤ k) (h2 : k ≤ 16) : homeOk m.v k ∧ homeI m.v k = (homeN m k : Int) ∧ homeN m k < k := by
  have hv := h.1.2.2
  have ho : homeOk m.v k := ⟨⟨by omega, by omega⟩, by omega, by omega⟩
  have hk : (k : Int) ≠ 0 := by omega
  have e : homeI m.v k = (m.v * 40503 + 12345) % 65536 % k := by unfold homeI; rw [if_pos ho]
  have g1 := Int.emod_nonneg ((m.v * 40503 + 12345) % 65536) hk
  have g2 := Int.emod_lt_of_pos ((m.v * 40503 + 12345) % 65536) (show (0 : Int) < k by omega)
  unfold homeN
  rw [e]
  exact ⟨ho, by omega, by omega⟩

set_option maxRecDepth 100000 in
set_option maxHeartbeats 4000000 in
theorem split_c (A : Option Addr) (n c k : Nat) (ms : List Msg) (w : World) (hk1 : 1 ≤ k) (hk2 : k ≤ 16) (hr : Reads w w.heap.size 4 A n (mv ms)) (hn : n ≤ 100000) (hm : allMay ms) :
    Calls Try.prog 17 #[.slice A n c, .int .i64 k] w fun e w' =>
      ∃ A' c' vs, e = .returned (.tuple #[.slice A' k c', .int .i64 0]) ∧ w'.ownsRow w.heap.size 22 1 (.slice A' k c') k vs ∧ RowsOwn w' w.heap.size 31 4 vs (mvs (parted ms k)) ∧ Below w.heap.size w w' := by
  have hl := Lib.hid hr.mail_len
  have hml : n ≤ maxLen := by unfold maxLen; omega
  have hk0 : homeOk 0 k := ⟨⟨by omega, by omega⟩, by omega, by omega⟩
  obtain ⟨i0, hi0, hz0, hz1, hz2⟩ := info_parts infoRow
  go_enter Try.func17, Try.ntmps17
  go_wp2_with (fail)
  refine (home_c 0 k _).mono ?_
  rintro e w1 ⟨rfl, hB1⟩
  rw [decide_eq_true hk0]
  clear hk0
  go_wp2_with (fail)
  refine (check_c A n c ms _ ((hr.below hB1).more hB1.size) hml).mono ?_
  rintro e w2 ⟨rfl, hB2⟩
  rw [decide_eq_true hm]
  have HM := Lib.hid hm
  have hB := hB1.trans (hB2.mono hB1.size)
  clear hm hB1 hB2
  go_wp2_with (at_make; refine wpList_make_full _ rfl _ _ 36 rfl w2.heap.size 22 i0 _ 1 Try.underlying36 hi0 hz0 hz1 _ _ _ _ k rfl rfl rfl rfl (by rw [hz2]; omega) (by unfold maxLen; omega) (Nat.le_refl _) ?_; intro w3 hown1 hg1)
  have hown : w3.ownsRow w2.heap.size 22 1 (.slice (some ⟨w2.heap.size, 0, none⟩) k k) k (List.replicate k (.slice none 0 0)) := by
    have e := toList_madeCells_one (.slice none 0 0) k
    rw [Nat.mul_one] at hown1
    exact e ▸ hown1
  have hB3 : Below w.heap.size w w3 := hB.grown hg1 hB.size (fun _ h => by cases h)
  have hbw := hB.size
  clear hown1 hg1 hB
  generalize w2.heap.size = b at hown hbw ⊢
  go_loopw [29] (fun i wr => ∃ (j : Nat) (vs : List Value), j ≤ n ∧ i = .int .i64 j ∧ wr.ownsRow b 22 1 (.slice (some ⟨b, 0, none⟩) k k) k vs ∧
      RowsOwn wr (b + 1) 31 4 vs (mvs (parted (ms.take j) k)) ∧ Below w.heap.size w wr) (fun i _ => n - (intOf i).toNat)
  case atStart =>
    refine ⟨0, _, Nat.zero_le _, rfl, hown, ?_, hB3⟩
    rw [List.take_zero, parted_nil, mvs, List.map_replicate]
    exact rowsOwn_nils _ _ _ _ _
  case round =>
    clear hown hB3
    obtain ⟨j, vs, hj, rfl, ho, hrs, hB⟩ := hrel
    have hsz := hB.size
    by_cases hlt : j < n
    · obtain ⟨b1, o1, x, rfl, hx, c0, c1, c2, c3⟩ := (hr.below hB).mail_at hlt
      obtain ⟨hok, hhome, hlt2⟩ := home_lt (HM.out x (List.mem_of_getElem? hx.out)) hk1 hk2
      obtain ⟨r, hrk⟩ : ∃ r, Hid (homeN x k = r) := ⟨_, rfl⟩
      rw [hrk.out] at hhome hlt2
      go_wp2_with (fail)
      refine (home_c x.v k _).mono ?_
      rintro e w4 ⟨rfl, hB4⟩
      rw [decide_eq_true hok, hhome]
      have hbx : w4.heap[wr.heap.size]? = some (.cells #[.int .i64 x.slot, .int .i64 x.dir, .int .i64 x.v, .int .i64 x.d] 31 (0, 0)) := (hB4.block _ (by simp)).trans Array.getElem?_push_size
      have ho4 := own_below (ho.alloc (.cells #[.int .i64 x.slot, .int .i64 x.dir, .int .i64 x.v, .int .i64 x.d] 31)) hB4
      have hrs4 := (hrs.below (below_one wr (.cells #[.int .i64 x.slot, .int .i64 x.dir, .int .i64 x.v, .int .i64 x.d] 31))).below hB4
      have hBB := (hB.alloc hB.size (.cells #[.int .i64 x.slot, .int .i64 x.dir, .int .i64 x.v, .int .i64 x.d] 31)).trans (hB4.mono (by simp; omega))
      obtain ⟨d0, d1, d2, d3⟩ := mail_box hbx
      have hsz4 : w.heap.size ≤ w4.heap.size := hBB.size
      clear hok hhome hbx ho hrs hB hB4 c0 c1 c2 c3
      have hrow : (mvs (parted (ms.take j) k))[r]? = some (mv (ofHome (ms.take j) k r)) := by rw [mvs, List.getElem?_map, parted_get _ _ _ hlt2]; rfl
      obtain ⟨Ar, mr, cr, hvr, hor⟩ := hrs4.at_ hrow
      have hcr := own_slice_at ho4 hvr
      have hfr := ho4.frozenAt r
      have hg := (own_lt ho4 _ rfl).2
      have f3 : (0 : Int) ≤ (r : Int) := by omega
      have f4 : (r : Int) < (k : Int) := by omega
      have hmr : mr ≤ n := by
        have h1 := hor.1
        rw [mv_len] at h1
        have h2 := ofHome_le (ms.take j) k r
        have h3 := List.length_take_le j ms
        omega
      have hapo : Apart (some ⟨b, 0, none⟩) Ar := own_ne ho4 hor (by decide)
      have hfin : Hid (∀ (A4 : Option Addr) (c4 : Nat) (w5 : World), w5.ownsRow (b + 1) 31 4 (.slice A4 (mr + 1) c4) (mr + 1) (mv (ofHome (ms.take j) k r) ++ (mc x).toArray.toList) → Pushed w4 w5 Ar A4 →
          w5.cell? ⟨b, r, none⟩ = some (.slice Ar mr cr) ∧ w5.frozen? ⟨b, r, none⟩ = false) := fun A4 c4 w5 _ p5 => by
        have h := p5.keep ho4 hapo
        exact ⟨own_slice_at h hvr, h.frozenAt r⟩
      have hend : Hid (∀ (A4 : Option Addr) (c4 : Nat) (w5 : World), w5.ownsRow (b + 1) 31 4 (.slice A4 (mr + 1) c4) (mr + 1) (mv (ofHome (ms.take j) k r) ++ (mc x).toArray.toList) → Pushed w4 w5 Ar A4 →
          (w5.setCell ⟨b, r, none⟩ (.slice A4 (mr + 1) c4)).ownsRow b 22 1 (.slice (some ⟨b, 0, none⟩) k k) k (vs.set r (.slice A4 (mr + 1) c4)) ∧
          RowsOwn (w5.setCell ⟨b, r, none⟩ (.slice A4 (mr + 1) c4)) (b + 1) 31 4 (vs.set r (.slice A4 (mr + 1) c4)) (mvs (parted (ms.take (j + 1)) k)) ∧
          Below w.heap.size w (w5.setCell ⟨b, r, none⟩ (.slice A4 (mr + 1) c4))) := fun A4 c4 w5 ho5 p5 => by
        have h := (p5.keep ho4 hapo).stored r (.slice A4 (mr + 1) c4)
        refine ⟨h.1, ?_, (p5.below hor hBB (by omega) hsz4).grown h.2 (Nat.le_trans hsz4 p5.larger) (fun g hg => by injection hg; omega)⟩
        have h2 := (hrs4.push hvr (by rw [mvs, List.length_map, parted_len]; exact hlt2) ho5 p5).only h.2 (Nat.lt_succ_self _)
        have e : mvs (parted (ms.take (j + 1)) k) = (mvs (parted (ms.take j) k)).set r (mv (ofHome (ms.take j) k r) ++ (mc x).toArray.toList) := by
          rw [List.take_add_one, hx.out, Option.toList_some, parted_snoc _ _ _ (by rw [hrk.out]; exact hlt2), hrk.out, mvs, List.map_set, mv_append]
          simp [mv, mvs]
        rw [e]; exact h2
      clear hrow hrs4
      go_wp2_with (fail)
      go_region_law (first | (refine step_push_drew elMail rfl (.tmp 48) (.tmp 50) rfl hor rfl _ rfl rfl (mc_one x) (by unfold maxLen; omega) (by omega) (by omega) ?_; intro A4 c4 w5 ho5 p5; obtain ⟨hc5, hf5⟩ := hfin.out A4 c4 w5 ho5 p5))
      all_goals
        go_wp2_with (fail)
        go_roundw
        case rel => exact ⟨j + 1, _, by omega, by go_num, hend.out A4 c4 w5 ho5 p5⟩
        case measure => simp [intOf]; omega
    · obtain rfl : n = j := by omega
      have hf : Hid (ms.take n = ms) := by show _ = _; exact List.take_of_length_le (by rw [hl.out]; exact Nat.le_refl _)
      rw [hf.out] at hrs
      go_wp2_with (fail)
      go_ret2
      exact ⟨_, k, vs, rfl, own_more ho hbw, hrs.more (by omega), hB⟩
end Go.Proofs.Ytgphijfcmegdaaa
