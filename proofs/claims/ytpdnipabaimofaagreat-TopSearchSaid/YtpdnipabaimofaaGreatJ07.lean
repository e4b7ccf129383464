/-
  Split: the program's and the reference's; the same of rows of rows.
  Plain laws of chapter 17: picks, and what is ordered by them. No program in sight.
  The walks of the picks.
  The walks of turn's ordering.
  The walks of turn's ordering of messages.
  The walks of turn's exported functions.
  prog.Next where rows and state are right: the walk.
  What Step asks ahead of its rounds: small walks.
-/
import Derived.Test.YtpdnipabaimofaaGreatJ06
import Derived.Test.YtpdnipabaimofaaGreatJ04
import Derived.Test.YtpdnipabaimofaaGreatJ05
import Derived.Test.YtpdnipabaimofaaGreatProg
import Derived.Test.YtpdnipabaimofaaGreatJ01
import Derived.Deep.RegionLaw
import Derived.Lib.QuietBelow
import Derived.Handy
import Derived.BigQuiet
import Derived.WalkLawsBesides
import Derived.WalkSpells
import Derived.StillTailTactics
namespace Go.Proofs.YtpdnipabaimofaaGreat
open Go.RowKit

theorem elRow : Elem Tryz.prog 113 57 1 24 := Elem.mk_ Tryz.underlying113 (z := .slice none 0 0) (by kernel_rfl) rfl (by decide)
theorem infoRow : (Tryz.prog.info? 57).map (fun i => (i.zero, i.size, i.bytes)) = some (some (.slice none 0 0), 1, 24) := by kernel_rfl

def homeN (m : Msg) (k : Nat) : Nat := (homeI m.v k).toNat
/-- The messages whose home is worker i. -/
def ofHome (l : List Msg) (k i : Nat) : List Msg := l.filter fun m => homeN m k == i
def parted (l : List Msg) (k : Nat) : List (List Msg) := (List.range k).map fun i => ofHome l k i
def mvs (l : List (List Msg)) : List (List Value) := l.map mv

theorem parted_len (l : List Msg) (k : Nat) : (parted l k).length = k := by simp [parted]
theorem parted_get (l : List Msg) (k i : Nat) (h : i < k) : (parted l k)[i]? = some (ofHome l k i) := by
  rw [parted, List.getElem?_map, List.getElem?_range h]; rfl
theorem parted_nil (k : Nat) : parted [] k = List.replicate k [] := by
  apply List.ext_getElem?
  intro i
  by_cases h : i < k
  · rw [parted_get _ _ _ h, List.getElem?_replicate, if_pos h]; rfl
  · rw [List.getElem?_eq_none (by rw [parted_len]; omega), List.getElem?_eq_none (by simp; omega)]
theorem ofHome_snoc (l : List Msg) (x : Msg) (k i : Nat) : ofHome (l ++ [x]) k i = if homeN x k = i then ofHome l k i ++ [x] else ofHome l k i := by
  unfold ofHome
  rw [List.filter_append]
  by_cases h : homeN x k = i
  · simp [h]
  · simp [h]
theorem parted_snoc (l : List Msg) (x : Msg) (k : Nat) (h : homeN x k < k) : parted (l ++ [x]) k = (parted l k).set (homeN x k) (ofHome l k (homeN x k) ++ [x]) := by
  apply List.ext_getElem?
  intro i
  by_cases hi : i < k
  · rw [parted_get _ _ _ hi, List.getElem?_set, ofHome_snoc]
    by_cases he : homeN x k = i
    · subst he
      rw [if_pos rfl, if_pos rfl, if_pos (by rw [parted_len]; exact h)]
    · rw [if_neg he, if_neg he, parted_get _ _ _ hi]
  · rw [List.getElem?_eq_none (by rw [parted_len]; omega), List.getElem?_eq_none (by rw [List.length_set, parted_len]; omega)]
theorem ofHome_le (l : List Msg) (k i : Nat) : (ofHome l k i).length ≤ l.length := List.length_filter_le _ _

theorem home_lt {m : Msg} {k : Nat} (h : mayM m) (h1 : 1 ≤ k) (h2 : k ≤ 16) : homeOk m.v k ∧ homeI m.v k = (homeN m k : Int) ∧ homeN m k < k := by
  have hv := h.1.2.2
  have ho : homeOk m.v k := ⟨⟨by omega, by omega⟩, by omega, by omega⟩
  have hk : (k : Int) ≠ 0 := by omega
  have e : homeI m.v k = (m.v * 40503 + 12345) % 65536 % k := by unfold homeI; rw [if_pos ho]
  have g1 := Int.emod_nonneg ((m.v * 40503 + 12345) % 65536) hk
  have g2 := Int.emod_lt_of_pos ((m.v * 40503 + 12345) % 65536) (show (0 : Int) < k by omega)
  unfold homeN
  rw [e]
  exact ⟨ho, by omega, by omega⟩

set_option maxRecDepth 100000 in
set_option maxHeartbeats 4000000 in
theorem split_c (A : Option Addr) (n c k : Nat) (ms : List Msg) (w : World) (hk1 : 1 ≤ k) (hk2 : k ≤ 16) (hr : Reads w w.heap.size 4 A n (mv ms)) (hn : n ≤ 100000) (hm : allMay ms) :
    Calls Tryz.prog 49 #[.slice A n c, .int .i64 k] w fun e w' =>
      ∃ A' c' vs, e = .returned (.tuple #[.slice A' k c', .int .i64 0]) ∧ w'.ownsRow w.heap.size 57 1 (.slice A' k c') k vs ∧ RowsOwn w' w.heap.size 79 4 vs (mvs (parted ms k)) ∧ Below w.heap.size w w' := by
  have hl := Lib.hid hr.mail_len
  have hml : n ≤ maxLen := by unfold maxLen; omega
  have hk0 : homeOk 0 k := ⟨⟨by omega, by omega⟩, by omega, by omega⟩
  obtain ⟨i0, hi0, hz0, hz1, hz2⟩ := info_parts infoRow
  go_enter Tryz.func49, Tryz.ntmps49
  go_wp2_with (fail)
  refine (home_c 0 k _).mono ?_
  rintro e w1 ⟨rfl, hB1⟩
  rw [decide_eq_true hk0]
  clear hk0
  go_wp2_with (fail)
  refine (check_c A n c ms _ ((hr.below hB1).more hB1.size) hml).mono ?_
  rintro e w2 ⟨rfl, hB2⟩
  rw [decide_eq_true hm]
  have HM := Lib.hid hm
  have hB := hB1.trans (hB2.mono hB1.size)
  clear hm hB1 hB2
  go_wp2_with (at_make; refine wpList_make_full _ rfl _ _ 113 rfl w2.heap.size 57 i0 _ 1 Tryz.underlying113 hi0 hz0 hz1 _ _ _ _ k rfl rfl rfl rfl (by rw [hz2]; omega) (by unfold maxLen; omega) (Nat.le_refl _) ?_; intro w3 hown1 hg1)
  have hown : w3.ownsRow w2.heap.size 57 1 (.slice (some ⟨w2.heap.size, 0, none⟩) k k) k (List.replicate k (.slice none 0 0)) := by
    have e := toList_madeCells_one (.slice none 0 0) k
    rw [Nat.mul_one] at hown1
    exact e ▸ hown1
  have hB3 : Below w.heap.size w w3 := hB.grown hg1 hB.size (fun _ h => by cases h)
  have hbw := hB.size
  clear hown1 hg1 hB
  generalize w2.heap.size = b at hown hbw ⊢
  go_loopw [29] (fun i wr => ∃ (j : Nat) (vs : List Value), j ≤ n ∧ i = .int .i64 j ∧ wr.ownsRow b 57 1 (.slice (some ⟨b, 0, none⟩) k k) k vs ∧
      RowsOwn wr (b + 1) 79 4 vs (mvs (parted (ms.take j) k)) ∧ Below w.heap.size w wr) (fun i _ => n - (intOf i).toNat)
  case atStart =>
    refine ⟨0, _, Nat.zero_le _, rfl, hown, ?_, hB3⟩
    rw [List.take_zero, parted_nil, mvs, List.map_replicate]
    exact rowsOwn_nils _ _ _ _ _
  case round =>
    clear hown hB3
    obtain ⟨j, vs, hj, rfl, ho, hrs, hB⟩ := hrel
    have hsz := hB.size
    by_cases hlt : j < n
    · obtain ⟨b1, o1, x, rfl, hx, c0, c1, c2, c3⟩ := (hr.below hB).mail_at hlt
      obtain ⟨hok, hhome, hlt2⟩ := home_lt (HM.out x (List.mem_of_getElem? hx.out)) hk1 hk2
      obtain ⟨r, hrk⟩ : ∃ r, Hid (homeN x k = r) := ⟨_, rfl⟩
      rw [hrk.out] at hhome hlt2
      go_wp2_with (fail)
      refine (home_c x.v k _).mono ?_
      rintro e w4 ⟨rfl, hB4⟩
      rw [decide_eq_true hok, hhome]
      have hbx : w4.heap[wr.heap.size]? = some (.cells #[.int .i64 x.slot, .int .i64 x.dir, .int .i64 x.v, .int .i64 x.d] 79 (0, 0)) := (hB4.block _ (by simp)).trans Array.getElem?_push_size
      have ho4 := own_below (ho.alloc (.cells #[.int .i64 x.slot, .int .i64 x.dir, .int .i64 x.v, .int .i64 x.d] 79)) hB4
      have hrs4 := (hrs.below (below_one wr (.cells #[.int .i64 x.slot, .int .i64 x.dir, .int .i64 x.v, .int .i64 x.d] 79))).below hB4
      have hBB := (hB.alloc hB.size (.cells #[.int .i64 x.slot, .int .i64 x.dir, .int .i64 x.v, .int .i64 x.d] 79)).trans (hB4.mono (by simp; omega))
      obtain ⟨d0, d1, d2, d3⟩ := mail_box hbx
      have hsz4 : w.heap.size ≤ w4.heap.size := hBB.size
      clear hok hhome hbx ho hrs hB hB4 c0 c1 c2 c3
      have hrow : (mvs (parted (ms.take j) k))[r]? = some (mv (ofHome (ms.take j) k r)) := by rw [mvs, List.getElem?_map, parted_get _ _ _ hlt2]; rfl
      obtain ⟨Ar, mr, cr, hvr, hor⟩ := hrs4.at_ hrow
      have hcr := own_slice_at ho4 hvr
      have hfr := ho4.frozenAt r
      have hg := (own_lt ho4 _ rfl).2
      have f3 : (0 : Int) ≤ (r : Int) := by omega
      have f4 : (r : Int) < (k : Int) := by omega
      have hmr : mr ≤ n := by
        have h1 := hor.1
        rw [mv_len] at h1
        have h2 := ofHome_le (ms.take j) k r
        have h3 := List.length_take_le j ms
        omega
      have hapo : Apart (some ⟨b, 0, none⟩) Ar := own_ne ho4 hor (by decide)
      have hfin : Hid (∀ (A4 : Option Addr) (c4 : Nat) (w5 : World), w5.ownsRow (b + 1) 79 4 (.slice A4 (mr + 1) c4) (mr + 1) (mv (ofHome (ms.take j) k r) ++ (mc x).toArray.toList) → Pushed w4 w5 Ar A4 →
          w5.cell? ⟨b, r, none⟩ = some (.slice Ar mr cr) ∧ w5.frozen? ⟨b, r, none⟩ = false) := fun A4 c4 w5 _ p5 => by
        have h := p5.keep ho4 hapo
        exact ⟨own_slice_at h hvr, h.frozenAt r⟩
      have hend : Hid (∀ (A4 : Option Addr) (c4 : Nat) (w5 : World), w5.ownsRow (b + 1) 79 4 (.slice A4 (mr + 1) c4) (mr + 1) (mv (ofHome (ms.take j) k r) ++ (mc x).toArray.toList) → Pushed w4 w5 Ar A4 →
          (w5.setCell ⟨b, r, none⟩ (.slice A4 (mr + 1) c4)).ownsRow b 57 1 (.slice (some ⟨b, 0, none⟩) k k) k (vs.set r (.slice A4 (mr + 1) c4)) ∧
          RowsOwn (w5.setCell ⟨b, r, none⟩ (.slice A4 (mr + 1) c4)) (b + 1) 79 4 (vs.set r (.slice A4 (mr + 1) c4)) (mvs (parted (ms.take (j + 1)) k)) ∧
          Below w.heap.size w (w5.setCell ⟨b, r, none⟩ (.slice A4 (mr + 1) c4))) := fun A4 c4 w5 ho5 p5 => by
        have h := (p5.keep ho4 hapo).stored r (.slice A4 (mr + 1) c4)
        refine ⟨h.1, ?_, (p5.below hor hBB (by omega) hsz4).grown h.2 (Nat.le_trans hsz4 p5.larger) (fun g hg => by injection hg; omega)⟩
        have h2 := (hrs4.push hvr (by rw [mvs, List.length_map, parted_len]; exact hlt2) ho5 p5).only h.2 (Nat.lt_succ_self _)
        have e : mvs (parted (ms.take (j + 1)) k) = (mvs (parted (ms.take j) k)).set r (mv (ofHome (ms.take j) k r) ++ (mc x).toArray.toList) := by
          rw [List.take_add_one, hx.out, Option.toList_some, parted_snoc _ _ _ (by rw [hrk.out]; exact hlt2), hrk.out, mvs, List.map_set, mv_append]
          simp [mv, mvs]
        rw [e]; exact h2
      clear hrow hrs4
      go_wp2_with (fail)
      go_region_law (first | (refine step_push_drew elMail rfl (.tmp 48) (.tmp 50) rfl hor rfl _ rfl rfl (mc_one x) (by unfold maxLen; omega) (by omega) (by omega) ?_; intro A4 c4 w5 ho5 p5; obtain ⟨hc5, hf5⟩ := hfin.out A4 c4 w5 ho5 p5))
      all_goals
        go_wp2_with (fail)
        go_roundw
        case rel => exact ⟨j + 1, _, by omega, by go_num, hend.out A4 c4 w5 ho5 p5⟩
        case measure => simp [intOf]; omega
    · obtain rfl : n = j := by omega
      have hf : Hid (ms.take n = ms) := by show _ = _; exact List.take_of_length_le (by rw [hl.out]; exact Nat.le_refl _)
      rw [hf.out] at hrs
      go_wp2_with (fail)
      go_ret2
      exact ⟨_, k, vs, rfl, own_more ho hbw, hrs.more (by omega), hB⟩
end Go.Proofs.YtpdnipabaimofaaGreat

namespace Go.Proofs.YtpdnipabaimofaaGreat

/-- The pick among n. -/
def pickAt (n : Nat) (p : Int) : Nat := (p % (n : Int)).toNat

theorem pickAt_lt (n : Nat) (p : Int) (h : 0 < n) : pickAt n p < n := by
  unfold pickAt
  have h1 := Int.emod_nonneg p (show (n : Int) ≠ 0 by omega)
  have h2 := Int.emod_lt_of_pos p (show (0 : Int) < n by omega)
  omega

theorem pickAt_cast (n : Nat) (p : Int) (h : 0 < n) : (pickAt n p : Int) = p % (n : Int) := by
  unfold pickAt
  have h1 := Int.emod_nonneg p (show (n : Int) ≠ 0 by omega)
  omega

theorem pickAt_zero (n : Nat) : pickAt n 0 = 0 := by simp [pickAt]

/-- What n things are, ordered by picks: each time the one at the next pick of those that are left. -/
def ordN {α : Type} : Nat → List α → List Int → List α
  | 0, _, _ => []
  | n + 1, l, ps => (l[pickAt (n + 1) (ps.headD 0)]?).toList ++ ordN n (l.eraseIdx (pickAt (n + 1) (ps.headD 0))) ps.tail

def ord {α : Type} (l : List α) (ps : List Int) : List α := ordN l.length l ps

theorem ord_nil {α : Type} (ps : List Int) : ord ([] : List α) ps = [] := rfl

/-- One step. -/
theorem ord_step {α : Type} (l : List α) (ps : List Int) (k : Nat) (hk : k < l.length) (hp : k = pickAt l.length (ps.headD 0)) :
    ord l ps = l[k] :: ord (l.eraseIdx k) ps.tail := by
  unfold ord
  obtain ⟨n, hn⟩ : ∃ n, l.length = n + 1 := ⟨l.length - 1, by omega⟩
  rw [hn] at hp
  rw [List.length_eraseIdx_of_lt hk, hn]
  simp only [ordN, ← hp, Nat.add_sub_cancel]
  rw [List.getElem?_eq_getElem hk]
  rfl

/-- One step, with picks from the j-th on. -/
theorem ord_step_at {α : Type} (l : List α) (ps : List Int) (j q : Nat) (x : α) (hq : pickAt l.length (ps[j]?.getD 0) = q) (hx : l[q]? = some x) :
    ord l (ps.drop j) = x :: ord (l.eraseIdx q) (ps.drop (j + 1)) := by
  obtain ⟨h1, h2⟩ := List.getElem?_eq_some_iff.1 hx
  have hh : (ps.drop j).headD 0 = ps[j]?.getD 0 := by
    rw [List.headD_eq_head?_getD, List.head?_drop]
  rw [ord_step l (ps.drop j) q h1 (by rw [hh]; exact hq.symm), h2, List.tail_drop]

theorem length_ordN {α : Type} : ∀ (n : Nat) (l : List α) (ps : List Int), l.length = n → (ordN n l ps).length = n
  | 0, _, _, _ => rfl
  | n + 1, l, ps, h => by
    have hk := pickAt_lt (n + 1) (ps.headD 0) (by omega)
    have hl : (l.eraseIdx (pickAt (n + 1) (ps.headD 0))).length = n := by rw [List.length_eraseIdx_of_lt (by omega), h]; rfl
    simp only [ordN, List.length_append, length_ordN n _ ps.tail hl]
    rw [List.getElem?_eq_getElem (by omega)]
    simp; omega

theorem length_ord {α : Type} (l : List α) (ps : List Int) : (ord l ps).length = l.length := length_ordN _ _ _ rfl

theorem eraseIdx_perm {α : Type} : ∀ (l : List α) (k : Nat) (h : k < l.length), (l[k] :: l.eraseIdx k).Perm l
  | [], _, h => absurd h (by simp)
  | x :: l, 0, _ => List.Perm.refl _
  | x :: l, k + 1, h => by
    have ih := eraseIdx_perm l k (by simpa using h)
    simp only [List.getElem_cons_succ, List.eraseIdx_cons_succ]
    exact (List.Perm.swap _ _ _).trans (List.Perm.cons x ih)

theorem map_eraseIdx {α β : Type} (f : α → β) : ∀ (l : List α) (k : Nat), (l.map f).eraseIdx k = (l.eraseIdx k).map f
  | [], _ => by simp
  | x :: l, 0 => rfl
  | x :: l, k + 1 => by simp [map_eraseIdx f l k]

theorem perm_ordN {α : Type} : ∀ (n : Nat) (l : List α) (ps : List Int), l.length = n → (ordN n l ps).Perm l
  | 0, l, ps, h => by
    have : l = [] := List.eq_nil_of_length_eq_zero h
    subst this; exact List.Perm.refl _
  | n + 1, l, ps, h => by
    have hk := pickAt_lt (n + 1) (ps.headD 0) (by omega)
    have hl : (l.eraseIdx (pickAt (n + 1) (ps.headD 0))).length = n := by rw [List.length_eraseIdx_of_lt (by omega), h]; rfl
    simp only [ordN]
    rw [List.getElem?_eq_getElem (by omega)]
    have ih := perm_ordN n _ ps.tail hl
    have h2 : (l[pickAt (n + 1) (ps.headD 0)] :: l.eraseIdx (pickAt (n + 1) (ps.headD 0))).Perm l := eraseIdx_perm l _ (by omega)
    exact (List.Perm.cons _ ih).trans h2

theorem perm_ord {α : Type} (l : List α) (ps : List Int) : (ord l ps).Perm l := perm_ordN _ _ _ rfl

theorem ordN_nil {α : Type} : ∀ (n : Nat) (l : List α), l.length = n → ordN n l [] = l
  | 0, l, h => by
    have : l = [] := List.eq_nil_of_length_eq_zero h
    subst this; rfl
  | n + 1, l, h => by
    cases l with
    | nil => simp at h
    | cons x l =>
      simp only [ordN, List.headD_nil, pickAt_zero, List.tail_nil]
      rw [show (x :: l).eraseIdx 0 = l from rfl, ordN_nil n l (by simpa using h)]
      rfl

theorem ord_none {α : Type} (l : List α) : ord l [] = l := ordN_nil _ _ rfl

/-- Ordering by picks goes through any map. -/
theorem ordN_map {α β : Type} (f : α → β) : ∀ (n : Nat) (l : List α) (ps : List Int), l.length = n → ordN n (l.map f) ps = (ordN n l ps).map f
  | 0, _, _, _ => rfl
  | n + 1, l, ps, h => by
    have hk := pickAt_lt (n + 1) (ps.headD 0) (by omega)
    have hl : (l.eraseIdx (pickAt (n + 1) (ps.headD 0))).length = n := by rw [List.length_eraseIdx_of_lt (by omega), h]; rfl
    simp only [ordN, List.map_append, map_eraseIdx f, ordN_map f n _ ps.tail hl, List.getElem?_map]
    congr 1
    rw [List.getElem?_eq_getElem (by omega)]
    rfl

theorem ord_map {α β : Type} (f : α → β) (l : List α) (ps : List Int) : ord (l.map f) ps = (ord l ps).map f := by
  unfold ord; rw [List.length_map]; exact ordN_map f _ l ps rfl

/-- Picks that are as many more than a multiple of what is left tell the same. -/
theorem ordN_more {α : Type} : ∀ (n : Nat) (l : List α) (ps qs : List Int), l.length = n → ps.length = qs.length →
    (∀ i, i < n → i < ps.length → ∃ t : Int, qs[i]?.getD 0 = ps[i]?.getD 0 + t * ((n : Int) - i)) → ordN n l ps = ordN n l qs
  | 0, _, _, _, _, _, _ => rfl
  | n + 1, l, ps, qs, h, hlen, hm => by
    have hk := pickAt_lt (n + 1) (ps.headD 0) (by omega)
    have hl : (l.eraseIdx (pickAt (n + 1) (ps.headD 0))).length = n := by rw [List.length_eraseIdx_of_lt (by omega), h]; rfl
    have e : pickAt (n + 1) (qs.headD 0) = pickAt (n + 1) (ps.headD 0) := by
      cases ps with
      | nil =>
        have : qs = [] := List.eq_nil_of_length_eq_zero (by simpa using hlen.symm)
        subst this; rfl
      | cons p ps =>
        cases qs with
        | nil => simp at hlen
        | cons q qs =>
          obtain ⟨t, ht⟩ := hm 0 (by omega) (by simp)
          simp at ht
          subst ht
          simp only [List.headD_cons, pickAt]
          congr 1
          rw [show (((n + 1 : Nat) : Int)) = (n : Int) + 1 by omega, Int.add_mul_emod_self_right]
    simp only [ordN, e]
    congr 1
    refine ordN_more n _ ps.tail qs.tail hl (by simp [hlen]) ?_
    intro i hi hip
    obtain ⟨t, ht⟩ := hm (i + 1) (by omega) (by simp at hip; omega)
    refine ⟨t, ?_⟩
    simp only [List.getElem?_tail]
    rw [ht]
    congr 2
    omega

/-- The row that is dealt i-th of many. -/
def dealRow {α : Type} : List α → Nat → Nat → List α
  | l, parts, i => (List.range l.length).filterMap fun j => if j % parts = i then l[j]? else none

end Go.Proofs.YtpdnipabaimofaaGreat

namespace Go.Proofs.YtpdnipabaimofaaGreat
open Go.RowKit

theorem tmod_bd (p n : Int) (h : 1 ≤ n) : -n < p.tmod n ∧ p.tmod n < n := by
  have h1 := Int.tmod_lt_of_pos p (show 0 < n by omega)
  have h2 := Int.lt_tmod_of_pos p (show 0 < n by omega)
  omega

theorem emod_of_tmod (p n : Int) (h : 1 ≤ n) : p % n = if p.tmod n < 0 then p.tmod n + n else p.tmod n := by
  have hb := tmod_bd p n h
  have h1 := Int.emod_nonneg p (show n ≠ 0 by omega)
  have h2 := Int.emod_lt_of_pos p (show 0 < n by omega)
  have h3 := Int.mul_ediv_add_emod p n
  have h4 := Int.mul_tdiv_add_tmod p n
  have hd : n * (p / n - p.tdiv n) = p.tmod n - p % n := by rw [Int.mul_sub]; omega
  generalize p / n - p.tdiv n = t at hd
  have ht : t = 0 ∨ t = -1 := by
    have l1 : -2 < t := by
      refine Int.lt_of_mul_lt_mul_left (a := n) ?_ (by omega)
      rw [hd, show n * -2 = -(2 * n) by omega]; omega
    have l2 : t < 1 := by
      refine Int.lt_of_mul_lt_mul_left (a := n) ?_ (by omega)
      rw [hd]; omega
    omega
  rcases ht with rfl | rfl
  · rw [if_neg (by omega)]; omega
  · rw [if_pos (by omega)]; omega


theorem pick_yes (n p : Int) (w : World) (h1 : 1 ≤ n) (h2 : n ≤ 9223372036854775807) :
    Calls Tryz.prog 106 #[.int .i64 n, .int .i64 p] w fun e w' => e = .returned (.tuple #[.int .i64 (p % n), .bool true]) ∧ w = w' := by
  have hb1 := (tmod_bd p n h1).1
  have hb2 := (tmod_bd p n h1).2
  have HE := Lib.hid (emod_of_tmod p n h1)
  go_enter Tryz.func106, Tryz.ntmps106
  go_wp2
  all_goals go_ret2
  · have h : p.tmod n < 0 := by assumption
    exact ⟨ret_int2 (by rw [HE.out, if_pos h]), rfl⟩
  · have h : 0 ≤ p.tmod n := by assumption
    exact ⟨ret_int2 (by rw [HE.out, if_neg (by omega)]), rfl⟩

theorem pick_no (n p : Int) (w : World) (h1 : n < 1) :
    Calls Tryz.prog 106 #[.int .i64 n, .int .i64 p] w fun e w' => e = .returned (.tuple #[.int .i64 0, .bool false]) ∧ w = w' := by
  go_enter Tryz.func106, Tryz.ntmps106
  go_wp2
  all_goals go_ret2
  all_goals exact ⟨rfl, rfl⟩
end Go.Proofs.YtpdnipabaimofaaGreat

namespace Go.Proofs.YtpdnipabaimofaaGreat
open Go.RowKit

set_option maxRecDepth 100000 in
/-- The closure that tells the next pick. -/
theorem next_c (bi bp : Nat) (left k m c : Nat) {B : Nat} (A : Option Addr) (ps : List Int) (w : World) (h1 : 1 ≤ left) (h2 : left ≤ 9223372036854775807) (hk : k ≤ 4611686018427387904) (hm : m ≤ maxLen)
    (hi : w.cell? ⟨bi, 0, none⟩ = some (.int .i64 ((k : Int) - 1))) (hif : w.frozen? ⟨bi, 0, none⟩ = false)
    (hp : w.cell? ⟨bp, 0, none⟩ = some (.slice A m c)) (hbp : bi ≠ bp) (hr : Reads w B 1 A m (iv ps)) (hbi : 0 < m → ∀ a, A = some a → a.block ≠ bi) (q : Nat) (hq : Hid (pickAt left (ps[k]?.getD 0) = q)) :
    Calls Tryz.prog 105 #[.int .i64 left, .pointer (some ⟨bi, 0, none⟩), .pointer (some ⟨bp, 0, none⟩)] w fun e w' =>
      e = .returned (.int .i64 q) ∧ w.grownBy w' (some bi) ∧ w'.cell? ⟨bi, 0, none⟩ = some (.int .i64 k) ∧ w'.frozen? ⟨bi, 0, none⟩ = false ∧ w.heap.size = w'.heap.size := by
  have hW : w.grownBy (w.setCell ⟨bi, 0, none⟩ (.int .i64 k)) (some bi) ∧ (w.setCell ⟨bi, 0, none⟩ (.int .i64 k)).cell? ⟨bi, 0, none⟩ = some (.int .i64 k) ∧ (w.setCell ⟨bi, 0, none⟩ (.int .i64 k)).frozen? ⟨bi, 0, none⟩ = false ∧ w.heap.size = (w.setCell ⟨bi, 0, none⟩ (.int .i64 k)).heap.size :=
    ⟨only_setCell (only_refl _ _) (.inl rfl) _, World.cell?_setCell_same' _ _ _ (by rw [hi]; rfl), by rw [World.frozen?_setCell]; exact hif, by simp⟩
  have HW := Lib.hid hW
  clear hW
  unfold maxLen at hm
  have hl := hr.int_len
  by_cases hlt : k < m
  · obtain ⟨a, o, x, rfl, hx, hc⟩ := hr.int_at hlt
    have hab := hbi (by omega) _ rfl
    have hc' : (w.setCell ⟨bi, 0, none⟩ (.int .i64 k)).cell? ⟨a, o + k, none⟩ = some (.int .i64 x) := by
      rw [World.cell?_setCell_other _ _ _ _ (fun e => hab (congrArg Addr.block e).symm)]; exact hc
    clear hbi hr hl hc
    have HE := Lib.hid (pickAt_cast left x (by omega))
    go_enter Tryz.func105, Tryz.ntmps105
    go_wp2_with (go_at_call 106; refine (pick_yes _ _ _ (by omega) (by omega)).mono ?_; rintro e w' ⟨rfl, rfl⟩)
    go_ret
    refine ⟨ret_int ?_, HW.out⟩
    rw [← hq.out, hx.out]; exact HE.out.symm
  · have hx : Hid (ps[k]?.getD 0 = 0) := by show _ = _; rw [List.getElem?_eq_none (by omega)]; rfl
    clear hbi hr hl
    go_enter Tryz.func105, Tryz.ntmps105
    go_wp2
    go_ret
    exact ⟨ret_int (by rw [← hq.out, hx.out, pickAt_zero]; rfl), HW.out⟩

theorem infoInt : (Tryz.prog.info? 3).map (fun i => (i.zero, i.size, i.bytes)) = some (some (.int .i64 0), 1, 8) := by kernel_rfl

set_option maxRecDepth 100000 in
theorem ordered_c (bi bp : Nat) (A : Option Addr) (n c : Nat) (xs ps : List Int) (m d : Nat) (C : Option Addr) (w : World) (hr : Reads w w.heap.size 1 A n (iv xs)) (hn : n ≤ 1000000)
    (hi : w.cell? ⟨bi, 0, none⟩ = some (.int .i64 ((0 : Int) - 1))) (hif : w.frozen? ⟨bi, 0, none⟩ = false)
    (hp : w.cell? ⟨bp, 0, none⟩ = some (.slice C m d)) (hbp : bi ≠ bp) (hm : m ≤ maxLen) (hrp : Reads w w.heap.size 1 C m (iv ps)) (hbi : 0 < m → ∀ a, C = some a → a.block ≠ bi) :
    Calls Tryz.prog 82 #[.slice A n c, .func (.func 105) #[] #[.pointer (some ⟨bi, 0, none⟩), .pointer (some ⟨bp, 0, none⟩)]] w fun e w' =>
      ∃ A' c', e = .returned (.slice A' n c') ∧ w'.ownsRow (w.heap.size + 1) 3 1 (.slice A' n c') n (iv (ord xs ps)) ∧ Below bi w w' := by
  obtain ⟨i0, hi0, hz0, hz1, hz2⟩ := info_parts infoInt
  have hl := hr.int_len
  go_enter Tryz.func82, Tryz.ntmps82
  go_wp2_with (first
    | (at_make; refine wpList_make_full _ rfl _ _ 25 rfl w.heap.size 3 i0 _ 1 Tryz.underlying25 hi0 hz0 hz1 _ _ _ _ n rfl rfl rfl rfl (by rw [hz2]; omega) (by unfold maxLen; omega) (Nat.le_refl _) ?_; intro w1 hown1 hg1)
    | (with_reducible refine wpList_copy elInt rfl _ _ rfl hown1 rfl (hr.grown_ hg1 (Nat.le_refl _) (fun _ _ _ h => by cases h)) rfl 0 (fun _ => by simp) (by omega) (iv_one _) ?_; intro w2 hown2 hg2))
  have hB2 : Below w.heap.size w w2 := ((Below.refl _ _).grown hg1 (Nat.le_refl _) (fun _ h => by cases h)).grown hg2 hg1.size (fun g h => by injection h; omega)
  have hO : w.grownBy w2 (some bi) := only_of_below hB2 _
  have hown : w2.ownsRow w.heap.size 3 1 (.slice (some ⟨w.heap.size, 0, none⟩) n n) n (iv xs) := by
    rw [Nat.zero_mul, splice_full _ _ _ (by rw [Array.length_toList, size_madeCells, iv_len, Nat.mul_one]; exact hl.symm) (by rw [iv_len]; omega)] at hown2
    exact hown2
  have hsz : w.heap.size < w2.heap.size := (own_lt hown _ rfl).2
  clear hown2 hg1 hg2 hown1
  have HR := Lib.hid hr
  have HL := Lib.hid hl
  clear hr hl
  go_loopw [6, 5] (fun out left wr => ∃ (j k : Nat) (ls os : List Int) (A6 : Option Addr) (c6 : Nat), Hid (j + k = n) ∧ j ≤ n ∧ k ≤ n ∧ left = .slice (some ⟨w.heap.size, 0, none⟩) k n ∧ out = .slice A6 j c6 ∧
      wr.ownsRow w.heap.size 3 1 (.slice (some ⟨w.heap.size, 0, none⟩) k n) k (iv ls) ∧ wr.ownsRow (w.heap.size + 1) 3 1 (.slice A6 j c6) j (iv os) ∧
      Hid (os ++ ord ls (ps.drop j) = ord xs ps) ∧ wr.cell? ⟨bi, 0, none⟩ = some (.int .i64 ((j : Int) - 1)) ∧ wr.frozen? ⟨bi, 0, none⟩ = false ∧ w.grownBy wr (some bi))
    (fun _ left _ => slLen left)
  case atStart =>
    have hbl : bi < w.heap.size := block_lt_of_cell hi
    refine ⟨0, n, xs, [], none, 0, Nat.zero_add _, Nat.zero_le _, Nat.le_refl _, rfl, rfl, hown, own_nil, rfl, ?_, ?_, hO⟩
    · rw [hB2.cell (p := ⟨bi, 0, none⟩) hbl, hi]; rfl
    · rw [hB2.frozen (p := ⟨bi, 0, none⟩) hbl]; exact hif
  case round =>
    obtain ⟨j, k, ls, os, A6, c6, hjk, hj, hk, rfl, rfl, hol, hoo, heq, hci, hcf, hO⟩ := hrel
    have hcp : wr.cell? ⟨bp, 0, none⟩ = some (.slice C m d) := (only_cell hO (block_lt_of_cell hp) (by simpa using Ne.symm hbp)).trans hp
    have hrw : Reads wr w.heap.size 1 C m (iv ps) := hrp.grown_ hO (Nat.le_refl _) (fun h a ha e => hbi h a ha (by injection e))
    have hbl : bi < w.heap.size := block_lt_of_cell hi
    by_cases hlt : 0 < k
    · have hjn : j < n := by have := hjk.out; omega
      obtain ⟨q, hq⟩ : ∃ q, Hid (pickAt k (ps[j]?.getD 0) = q) := ⟨_, rfl⟩
      have hqk : q < k := by rw [← hq.out]; exact pickAt_lt _ _ hlt
      have hx : Hid (∀ w3, wr.grownBy w3 (some bi) → w3.ownsRow w.heap.size 3 1 (.slice (some ⟨w.heap.size, 0, none⟩) k n) k (iv ls) ∧ w3.ownsRow (w.heap.size + 1) 3 1 (.slice A6 j c6) j (iv os)) := fun w3 h3 =>
        ⟨own_only hol h3 (fun a ha e => by have := (own_lt hol a ha).1; injection e; omega), own_only hoo h3 (fun a ha e => by have := (own_lt hoo a ha).1; injection e; omega)⟩
      have hlk : Hid (ls.length = k) := by show _ = _; have := hol.1; simpa [iv] using this
      clear hol hoo
      go_wp2_with (first
        | (go_at_call 105; refine (next_c bi bp k j m d C ps _ (by omega) (by omega) (by omega) hm hci hcf hcp hbp hrw hbi q hq).mono ?_; rintro e w3 ⟨rfl, hO3, hci3, hcf3, hs3⟩; have hol3 := (hx.out w3 hO3).1; have hoo3 := (hx.out w3 hO3).2; obtain ⟨x, hxq, hcx⟩ := own_int_at hol3 hqk)
        | (at_builtin; have hbs := (own_lt hol3 _ rfl).2; go_must (refine wpList_push elInt rfl _ _ rfl hoo3 rfl _ rfl rfl (one_int _ _) (by unfold maxLen; omega) (by omega) hbs ?_; intro A4 c4 w4 hoo4 p4)))
      have f1 : (0 : Int) ≤ (q : Int) := by omega
      have f2 : (q : Int) ≤ (k : Int) := by omega
      have f3 : (0 : Int) ≤ (q : Int) + 1 := by omega
      have f4 : (q : Int) + 1 ≤ (k : Int) := by omega
      have f5 : IntKind.i64.wrap ((q : Int) + 1) = (q : Int) + 1 := IntWalk.i64_in _ (by omega)
      have f6 : ((q : Int) + 1).toNat = q + 1 := by omega
      have hol4 : w4.ownsRow w.heap.size 3 1 (.slice (some ⟨w.heap.size, 0, none⟩) k n) k (iv ls) :=
        p4.keep hol3 (fun a b ha hb => by cases ha; have := (own_lt hoo3 b hb).1; show w.heap.size ≠ b.block; omega)
      have hB4 : Below w.heap.size w3 w4 := p4.below hoo3 (Below.refl _ _) (Nat.le_succ _) (Nat.le_of_lt (own_lt hol3 _ rfl).2)
      go_still_tail 7, (by kernel_rfl)
      obtain ⟨w5, hw5⟩ : ∃ w5, w5 = w4.drew := ⟨_, rfl⟩
      show wpList _ _ _ _ _ w4.drew
      have hol5 : w5.ownsRow w.heap.size 3 1 (.slice (some ⟨w.heap.size, 0, none⟩) k n) k (iv ls) := by rw [hw5]; exact hol4.drew
      have hoo5 : w5.ownsRow (w.heap.size + 1) 3 1 (.slice A4 (j + 1) c4) (j + 1) (iv os ++ #[Value.int .i64 x].toList) := by rw [hw5]; exact hoo4.drew
      rw [← hw5]
      clear f1 f2 f3 f4 f5 f6
      go_wp2_with (with_reducible refine wpList_copy elInt rfl _ _ rfl hol5 rfl (own_cut (k := q + 1) hol5 (by omega) (fun h => by rw [if_neg (by omega), Nat.mul_one])) rfl q (fun h => by rw [if_neg (by omega), Nat.mul_one]) (by omega) (fun u hu => iv_one _ _ (List.mem_of_mem_drop hu)) ?_; intro w6 hol6 hg6)
      have hB5 : Below w.heap.size w3 w5 := by rw [hw5]; exact hB4.drew
      have hB6 : Below w.heap.size w3 w6 := hB5.grown hg6 (Nat.le_of_lt (own_lt hol5 _ rfl).2) (fun g h => by injection h; omega)
      go_roundw
      case rel =>
        refine ⟨j + 1, k - 1, ls.eraseIdx q, os ++ [x], A4, c4, ?_, by omega, by omega, rfl, rfl, ?_, ?_, ?_, ?_, ?_, ?_⟩
        · show _ = _; have := hjk.out; omega
        · have h := own_shorter (k := k - 1) hol6 (by omega) (by simp)
          rw [splice_shift _ _ _ _ (own_len hol5) hqk, iv_erase] at h
          exact h
        · rw [iv_append]
          exact own_only hoo5 hg6 (fun a ha e => by have := (own_lt hoo5 a ha).1; injection e; omega)
        · show _ = _
          rw [List.append_assoc, List.singleton_append, ← ord_step_at ls ps j q x (by rw [hlk.out]; exact hq.out) hxq.out]
          exact heq.out
        · rw [hB6.cell (p := ⟨bi, 0, none⟩) hbl, hci3]
          congr 2; omega
        · rw [hB6.frozen (p := ⟨bi, 0, none⟩) hbl]; exact hcf3
        · exact only_trans_below (hO.trans hO3) hB6
      case measure => simp [slLen]; omega
    · have hk0 : k = 0 := by omega
      subst hk0
      obtain rfl : j = n := by have := hjk.out; omega
      have hls : ls = [] := List.eq_nil_of_length_eq_zero (by have := hol.1; simpa [iv] using this)
      subst hls
      have hos : Hid (os = ord xs ps) := by show _ = _; have := heq.out; rw [ord_nil, List.append_nil] at this; exact this
      have hB : Below bi w wr := only_below hO (Nat.le_refl _) (by omega)
      clear hci hcf hcp hO hol
      go_wp2
      go_ret
      exact ⟨A6, c6, rfl, by rw [← hos.out]; exact hoo, hB⟩
end Go.Proofs.YtpdnipabaimofaaGreat

namespace Go.Proofs.YtpdnipabaimofaaGreat
open Go.RowKit

set_option maxRecDepth 100000 in
theorem orderedM_c (bi bp : Nat) (A : Option Addr) (n c : Nat) (xs : List Msg) (ps : List Int) (m d : Nat) (C : Option Addr) (w : World) (hr : Reads w w.heap.size 4 A n (mv xs)) (hn : n ≤ 1000000)
    (hi : w.cell? ⟨bi, 0, none⟩ = some (.int .i64 ((0 : Int) - 1))) (hif : w.frozen? ⟨bi, 0, none⟩ = false)
    (hp : w.cell? ⟨bp, 0, none⟩ = some (.slice C m d)) (hbp : bi ≠ bp) (hm : m ≤ maxLen) (hrp : Reads w w.heap.size 1 C m (iv ps)) (hbi : 0 < m → ∀ a, C = some a → a.block ≠ bi) :
    Calls Tryz.prog 90 #[.slice A n c, .func (.func 105) #[] #[.pointer (some ⟨bi, 0, none⟩), .pointer (some ⟨bp, 0, none⟩)]] w fun e w' =>
      ∃ A' c', e = .returned (.slice A' n c') ∧ w'.ownsRow (w.heap.size + 1) 79 4 (.slice A' n c') n (mv (ord xs ps)) ∧ Below bi w w' := by
  obtain ⟨i0, hi0, hz0, hz1, hz2⟩ := info_parts infoMail
  have hl := hr.mail_len
  go_enter Tryz.func90, Tryz.ntmps90
  go_wp2_with (first
    | (at_make; refine wpList_make_full _ rfl _ _ 57 rfl w.heap.size 79 i0 _ 4 Tryz.underlying57 hi0 hz0 hz1 _ _ _ _ n rfl rfl rfl rfl (by rw [hz2]; omega) (by unfold maxLen; omega) (Nat.le_refl _) ?_; intro w1 hown1 hg1)
    | (with_reducible refine wpList_copy elMail rfl _ _ rfl hown1 rfl (hr.grown_ hg1 (Nat.le_refl _) (fun _ _ _ h => by cases h)) rfl 0 (fun _ => by simp) (by omega) (mv_one _) ?_; intro w2 hown2 hg2))
  have hB2 : Below w.heap.size w w2 := ((Below.refl _ _).grown hg1 (Nat.le_refl _) (fun _ h => by cases h)).grown hg2 hg1.size (fun g h => by injection h; omega)
  have hO : w.grownBy w2 (some bi) := only_of_below hB2 _
  have hown : w2.ownsRow w.heap.size 79 4 (.slice (some ⟨w.heap.size, 0, none⟩) n n) n (mv xs) := by
    rw [Nat.zero_mul, splice_full _ _ _ (by rw [Array.length_toList, size_madeCells, mv_len, hl]) (by rw [mv_len]; omega)] at hown2
    exact hown2
  have hsz : w.heap.size < w2.heap.size := (own_lt hown _ rfl).2
  clear hown2 hg1 hg2 hown1
  have HR := Lib.hid hr
  have HL := Lib.hid hl
  clear hr hl
  go_loopw [6, 5] (fun out left wr => ∃ (j k : Nat) (ls os : List Msg) (A6 : Option Addr) (c6 : Nat), Hid (j + k = n) ∧ j ≤ n ∧ k ≤ n ∧ left = .slice (some ⟨w.heap.size, 0, none⟩) k n ∧ out = .slice A6 j c6 ∧
      wr.ownsRow w.heap.size 79 4 (.slice (some ⟨w.heap.size, 0, none⟩) k n) k (mv ls) ∧ wr.ownsRow (w.heap.size + 1) 79 4 (.slice A6 j c6) j (mv os) ∧
      Hid (os ++ ord ls (ps.drop j) = ord xs ps) ∧ wr.cell? ⟨bi, 0, none⟩ = some (.int .i64 ((j : Int) - 1)) ∧ wr.frozen? ⟨bi, 0, none⟩ = false ∧ w.grownBy wr (some bi))
    (fun _ left _ => slLen left)
  case atStart =>
    have hbl : bi < w.heap.size := block_lt_of_cell hi
    refine ⟨0, n, xs, [], none, 0, Nat.zero_add _, Nat.zero_le _, Nat.le_refl _, rfl, rfl, hown, own_nil, rfl, ?_, ?_, hO⟩
    · rw [hB2.cell (p := ⟨bi, 0, none⟩) hbl, hi]; rfl
    · rw [hB2.frozen (p := ⟨bi, 0, none⟩) hbl]; exact hif
  case round =>
    obtain ⟨j, k, ls, os, A6, c6, hjk, hj, hk, rfl, rfl, hol, hoo, heq, hci, hcf, hO⟩ := hrel
    have hcp : wr.cell? ⟨bp, 0, none⟩ = some (.slice C m d) := (only_cell hO (block_lt_of_cell hp) (by simpa using Ne.symm hbp)).trans hp
    have hrw : Reads wr w.heap.size 1 C m (iv ps) := hrp.grown_ hO (Nat.le_refl _) (fun h a ha e => hbi h a ha (by injection e))
    have hbl : bi < w.heap.size := block_lt_of_cell hi
    by_cases hlt : 0 < k
    · have hjn : j < n := by have := hjk.out; omega
      obtain ⟨q, hq⟩ : ∃ q, Hid (pickAt k (ps[j]?.getD 0) = q) := ⟨_, rfl⟩
      have hqk : q < k := by rw [← hq.out]; exact pickAt_lt _ _ hlt
      have hx : Hid (∀ w3, wr.grownBy w3 (some bi) → w3.ownsRow w.heap.size 79 4 (.slice (some ⟨w.heap.size, 0, none⟩) k n) k (mv ls) ∧ w3.ownsRow (w.heap.size + 1) 79 4 (.slice A6 j c6) j (mv os)) := fun w3 h3 =>
        ⟨own_only hol h3 (fun a ha e => by have := (own_lt hol a ha).1; injection e; omega), own_only hoo h3 (fun a ha e => by have := (own_lt hoo a ha).1; injection e; omega)⟩
      have hlk : Hid (ls.length = k) := by show _ = _; have := hol.1; rw [mv_len] at this; omega
      clear hol hoo
      go_wp2_with (first
        | (go_at_call 105; refine (next_c bi bp k j m d C ps _ (by omega) (by omega) (by omega) hm hci hcf hcp hbp hrw hbi q hq).mono ?_; rintro e w3 ⟨rfl, hO3, hci3, hcf3, hs3⟩; have hol3 := (hx.out w3 hO3).1; have hoo3 := (hx.out w3 hO3).2; obtain ⟨x, hxq, hcx0, hcx1, hcx2, hcx3⟩ := own_mail_at hol3 hqk)
        | (at_builtin; have hbs := (own_lt hol3 _ rfl).2; go_must (refine wpList_push elMail rfl _ _ rfl hoo3 rfl _ rfl rfl (mc_one x) (by unfold maxLen; omega) (by omega) hbs ?_; intro A4 c4 w4 hoo4 p4)))
      have f1 : (0 : Int) ≤ (q : Int) := by omega
      have f2 : (q : Int) ≤ (k : Int) := by omega
      have f3 : (0 : Int) ≤ (q : Int) + 1 := by omega
      have f4 : (q : Int) + 1 ≤ (k : Int) := by omega
      have f5 : IntKind.i64.wrap ((q : Int) + 1) = (q : Int) + 1 := IntWalk.i64_in _ (by omega)
      have f6 : ((q : Int) + 1).toNat = q + 1 := by omega
      have hol4 : w4.ownsRow w.heap.size 79 4 (.slice (some ⟨w.heap.size, 0, none⟩) k n) k (mv ls) :=
        p4.keep hol3 (fun a b ha hb => by cases ha; have := (own_lt hoo3 b hb).1; show w.heap.size ≠ b.block; omega)
      have hB4 : Below w.heap.size w3 w4 := p4.below hoo3 (Below.refl _ _) (Nat.le_succ _) (Nat.le_of_lt (own_lt hol3 _ rfl).2)
      go_still_tail 7, (by kernel_rfl)
      obtain ⟨w5, hw5⟩ : ∃ w5, w5 = w4.drew := ⟨_, rfl⟩
      show wpList _ _ _ _ _ w4.drew
      have hol5 : w5.ownsRow w.heap.size 79 4 (.slice (some ⟨w.heap.size, 0, none⟩) k n) k (mv ls) := by rw [hw5]; exact hol4.drew
      have hoo5 : w5.ownsRow (w.heap.size + 1) 79 4 (.slice A4 (j + 1) c4) (j + 1) (mv os ++ mc x) := by rw [hw5]; exact hoo4.drew
      rw [← hw5]
      clear f1 f2 f3 f4 f5 f6
      go_wp2_with (with_reducible refine wpList_copy elMail rfl _ _ rfl hol5 rfl (own_cut (k := q + 1) hol5 (by omega) (fun h => by rw [if_neg (by omega)])) rfl q (fun h => by rw [if_neg (by omega)]) (by omega) (fun u hu => mv_one _ _ (List.mem_of_mem_drop hu)) ?_; intro w6 hol6 hg6)
      have hB5 : Below w.heap.size w3 w5 := by rw [hw5]; exact hB4.drew
      have hB6 : Below w.heap.size w3 w6 := hB5.grown hg6 (Nat.le_of_lt (own_lt hol5 _ rfl).2) (fun g h => by injection h; omega)
      go_roundw
      case rel =>
        refine ⟨j + 1, k - 1, ls.eraseIdx q, os ++ [x], A4, c4, ?_, by omega, by omega, rfl, rfl, ?_, ?_, ?_, ?_, ?_, ?_⟩
        · show _ = _; have := hjk.out; omega
        · have h := own_shorter (k := k - 1) hol6 (by omega) (by simp)
          rw [splice_shift _ _ _ _ (own_len hol5) hqk, mv_erase] at h
          exact h
        · rw [mv_append, show mv [x] = mc x by simp [mv]]
          exact own_only hoo5 hg6 (fun a ha e => by have := (own_lt hoo5 a ha).1; injection e; omega)
        · show _ = _
          rw [List.append_assoc, List.singleton_append, ← ord_step_at ls ps j q x (by rw [hlk.out]; exact hq.out) hxq.out]
          exact heq.out
        · rw [hB6.cell (p := ⟨bi, 0, none⟩) hbl, hci3]
          congr 2; omega
        · rw [hB6.frozen (p := ⟨bi, 0, none⟩) hbl]; exact hcf3
        · exact only_trans_below (hO.trans hO3) hB6
      case measure => simp [slLen]; omega
    · have hk0 : k = 0 := by omega
      subst hk0
      obtain rfl : j = n := by have := hjk.out; omega
      have hls : ls = [] := List.eq_nil_of_length_eq_zero (by have := hol.1; rw [mv_len] at this; omega)
      subst hls
      have hos : Hid (os = ord xs ps) := by show _ = _; have := heq.out; rw [ord_nil, List.append_nil] at this; exact this
      have hB : Below bi w wr := only_below hO (Nat.le_refl _) (by omega)
      clear hci hcf hcp hO hol
      go_wp2
      go_ret
      exact ⟨A6, c6, rfl, by rw [← hos.out]; exact hoo, hB⟩
end Go.Proofs.YtpdnipabaimofaaGreat

namespace Go.Proofs.YtpdnipabaimofaaGreat
open Go.RowKit

set_option maxRecDepth 100000 in
theorem of_c (C : Option Addr) (m d : Nat) (w : World) :
    Calls Tryz.prog 83 #[.slice C m d] w fun e w' => e = .returned (.func (.func 105) #[] #[.pointer (some ⟨w.heap.size + 1, 0, none⟩), .pointer (some ⟨w.heap.size, 0, none⟩)]) ∧
      Below w.heap.size w w' ∧ w.heap.size + 1 < w'.heap.size ∧ w'.cell? ⟨w.heap.size + 1, 0, none⟩ = some (.int .i64 ((0 : Int) - 1)) ∧ w'.frozen? ⟨w.heap.size + 1, 0, none⟩ = false ∧ w'.cell? ⟨w.heap.size, 0, none⟩ = some (.slice C m d) := by
  have hmf : ∀ (fn : Fn) (first cap : Array Value) (w : World), (Instr.makeFunc fn first cap).run Tryz.prog w = .ok (.func fn first cap) w := fun _ _ _ _ => rfl
  have hW : Hid (∀ w', w' = (w.alloc (.cells #[.slice C m d] 25)).alloc (.cells #[.int .i64 (-1)] 3) →
      Below w.heap.size w w' ∧ w.heap.size + 1 < w'.heap.size ∧ w'.cell? ⟨w.heap.size + 1, 0, none⟩ = some (.int .i64 ((0 : Int) - 1)) ∧ w'.frozen? ⟨w.heap.size + 1, 0, none⟩ = false ∧ w'.cell? ⟨w.heap.size, 0, none⟩ = some (.slice C m d)) := by
    rintro w' rfl
    refine ⟨((Below.refl _ _).alloc (Nat.le_refl _) _).alloc (by simp) _, by simp, ?_, World.frozen?_alloc_at _ _ _ _ (by simp), ?_⟩
    · rw [World.cell?_alloc_at _ _ _ _ (by simp)]; rfl
    · rw [World.cell?_alloc_past _ _ _ (by simp), World.cell?_alloc_at _ _ _ _ rfl]; rfl
  go_enter Tryz.func83, Tryz.ntmps83
  go_wp2
  go_ret
  exact ⟨rfl, hW.out _ rfl⟩

set_option maxRecDepth 100000 in
theorem turnMails_c (A C : Option Addr) (n c m d : Nat) (xs : List Msg) (ps : List Int) (w : World) (hr : Reads w w.heap.size 4 A n (mv xs)) (hn : n ≤ 1000000) (hrp : Reads w w.heap.size 1 C m (iv ps)) (hm : m ≤ maxLen) :
    Calls Tryz.prog 55 #[.slice A n c, .slice C m d] w fun e w' =>
      ∃ A' c', e = .returned (.slice A' n c') ∧ w'.ownsRow w.heap.size 79 4 (.slice A' n c') n (mv (ord xs ps)) ∧ Below w.heap.size w w' := by
  go_enter Tryz.func55, Tryz.ntmps55
  go_wp2_with (go_at_call 83; refine (of_c _ _ _ _).mono ?_; rintro e w1 ⟨rfl, hB1, hs1, hi1, hf1, hp1⟩)
  have hrp1 : Reads w1 w1.heap.size 1 C m (iv ps) := (hrp.below hB1).more hB1.size
  have hr1 : Reads w1 w1.heap.size 4 A n (mv xs) := (hr.below hB1).more hB1.size
  have hlt : 0 < m → ∀ a, C = some a → a.block ≠ w.heap.size + 1 := fun h a ha => by have := hrp.lt_ h a ha; omega
  refine (orderedM_c (w.heap.size + 1) w.heap.size A n c xs ps m d C w1 hr1 hn hi1 hf1 hp1 (by omega) hm hrp1 hlt).mono ?_
  rintro e w2 ⟨A', c', rfl, hown, hB2⟩
  go_wp2
  go_ret
  exact ⟨A', c', rfl, own_more hown (by omega), hB1.trans (hB2.mono (by omega))⟩


theorem range_snoc (k : Nat) : (List.range (k + 1)).map (fun i : Nat => (i : Int)) = (List.range k).map (fun i : Nat => (i : Int)) ++ [(k : Int)] := by
  rw [List.range_succ, List.map_append]; rfl

/-- 0 to n-1. -/
def upto (n : Nat) : List Int := (List.range n).map fun i : Nat => (i : Int)
theorem upto_len (n : Nat) : (upto n).length = n := by simp [upto]

theorem upto_succ (k : Nat) : upto (k + 1) = upto k ++ [(k : Int)] := range_snoc k
theorem upto_get (n k : Nat) (h : k < n) : (upto n)[k]? = some (k : Int) := by
  unfold upto
  rw [List.getElem?_map, List.getElem?_range h]; rfl
theorem upto_set (k n : Nat) (h : k < n) : (iv (upto k ++ List.replicate (n - k) 0)).set k (.int .i64 (k : Int)) = iv (upto (k + 1) ++ List.replicate (n - (k + 1)) 0) := by
  obtain ⟨r, hr⟩ : ∃ r, n - k = r + 1 := ⟨n - k - 1, by omega⟩
  rw [hr, show n - (k + 1) = r by omega, upto_succ, List.replicate_succ, iv_append, iv_append, List.set_append_right _ _ (by rw [iv_len, upto_len]; exact Nat.le_refl _), iv_len, upto_len, Nat.sub_self]
  simp [iv]

theorem order_no (C : Option Addr) (n : Int) (m d : Nat) (w : World) (hn : n < 0 ∨ 1000 < n) :
    Calls Tryz.prog 48 #[.int .i64 n, .slice C m d] w fun e w' => e = .returned (.tuple #[.slice none 0 0, .int .i64 1]) ∧ w = w' := by
  rcases hn with hn | hn
  · go_enter Tryz.func48, Tryz.ntmps48
    go_wp2
    go_ret2
    exact ⟨rfl, rfl⟩
  · have hn' : ¬ n < 0 := by omega
    go_enter Tryz.func48, Tryz.ntmps48
    go_wp2
    go_ret2
    exact ⟨rfl, rfl⟩

set_option maxRecDepth 100000 in
theorem turnOrder_c (C : Option Addr) (n m d : Nat) (ps : List Int) (w : World) (hn : n ≤ 1000) (hrp : Reads w w.heap.size 1 C m (iv ps)) (hm : m ≤ maxLen) :
    Calls Tryz.prog 48 #[.int .i64 n, .slice C m d] w fun e w' =>
      ∃ A' c', e = .returned (.tuple #[.slice A' n c', .int .i64 0]) ∧ w'.ownsRow w.heap.size 3 1 (.slice A' n c') n (iv (ord (upto n) ps)) ∧ Below w.heap.size w w' := by
  obtain ⟨i0, hi0, hz0, hz1, hz2⟩ := info_parts infoInt
  have hd1 : (decide ((n : Int) < 0)) = false := by simp
  go_enter Tryz.func48, Tryz.ntmps48
  go_wp2_with (at_make; refine wpList_make_full _ rfl _ _ 25 rfl w.heap.size 3 i0 _ 1 Tryz.underlying25 hi0 hz0 hz1 _ _ _ _ n rfl rfl rfl rfl (by rw [hz2]; omega) (by unfold maxLen; omega) (Nat.le_refl _) ?_; intro w1 hown1 hg1)
  have hown : w1.ownsRow w.heap.size 3 1 (.slice (some ⟨w.heap.size, 0, none⟩) n n) n (iv (upto 0 ++ List.replicate (n - 0) 0)) := by
    have e : (madeCells (Value.int .i64 0).cells (n * 1)).toList = iv (upto 0 ++ List.replicate (n - 0) 0) := by
      rw [Nat.mul_one]
      have := toList_madeCells_one (.int .i64 0) n
      simp only [upto, List.range_zero, List.map_nil, List.nil_append, Nat.sub_zero, iv, List.map_replicate]
      exact this
    rw [← e]; exact hown1
  have hB1 : Below w.heap.size w w1 := (Below.refl _ _).grown hg1 (Nat.le_refl _) (fun _ h => by cases h)
  have hs1 : w.heap.size < w1.heap.size := (own_lt hown _ rfl).2
  clear hown1 hg1
  go_loopw [18] (fun i wr => ∃ k : Nat, k ≤ n ∧ i = .int .i64 k ∧ wr.ownsRow w.heap.size 3 1 (.slice (some ⟨w.heap.size, 0, none⟩) n n) n (iv (upto k ++ List.replicate (n - k) 0)) ∧ Below w.heap.size w wr) (fun i _ => n - (intOf i).toNat)
  case atStart => exact ⟨0, Nat.zero_le _, rfl, hown, hB1⟩
  case round =>
    obtain ⟨k, hk, rfl, ho, hB⟩ := hrel
    by_cases hlt : k < n
    · have hsz : w.heap.size ≤ wr.heap.size := hB.size
      obtain ⟨x, _, hcx⟩ := own_int_at ho hlt
      have hfx := ho.frozenAt k
      go_wp2
      go_roundw
      case rel =>
        have h := ho.stored k (.int .i64 (k : Int))
        rw [upto_set k n hlt] at h
        exact ⟨k + 1, by omega, by go_num, h.1, hB.grown h.2 hsz (fun g h => by injection h; omega)⟩
      case measure => simp [intOf]; omega
    · obtain rfl : k = n := by omega
      have ho2 : wr.ownsRow w.heap.size 3 1 (.slice (some ⟨w.heap.size, 0, none⟩) k k) k (iv (upto k)) := by
        have h := ho
        rw [Nat.sub_self, List.replicate_zero, List.append_nil] at h
        exact h
      have hlo := (own_lt ho2 _ rfl).2
      go_wp2_with (go_at_call 83; refine (of_c _ _ _ _).mono ?_; rintro e w2 ⟨rfl, hB2, hs2, hi2, hf2, hp2⟩)
      have hrp2 : Reads w2 w2.heap.size 1 C m (iv ps) := ((hrp.below hB).below (hB2.mono hB.size)).more (Nat.le_trans hB.size hB2.size)
      have ho3 := own_below ho2 hB2
      have hlt2 : 0 < m → ∀ a, C = some a → a.block ≠ wr.heap.size + 1 := fun h a ha => by have := hrp.lt_ h a ha; have := hB.size; omega
      refine (ordered_c (wr.heap.size + 1) wr.heap.size _ k k (upto k) ps m d C w2 (own_reads ho3) (by omega) hi2 hf2 hp2 (by omega) hm hrp2 hlt2).mono ?_
      rintro e w3 ⟨A', c', rfl, hown3, hB3⟩
      go_wp2
      go_ret2
      exact ⟨A', c', rfl, own_more hown3 (by have := hB.size; omega), hB.trans ((hB2.mono hB.size).trans (hB3.mono (by have := hB.size; omega)))⟩
end Go.Proofs.YtpdnipabaimofaaGreat

namespace Go.Proofs.YtpdnipabaimofaaGreat
open Go.RowKit

/-- A query as an argument (its words are of no matter here). -/
structure QuA where
  kind : Int
  src : Int
  dst : Int
  W : Option Addr
  nw : Nat
  cw : Nat
  radius : Int
  most : Int
def quVal (q : QuA) : Value := .agg #[.int .i64 q.kind, .int .i64 q.src, .int .i64 q.dst, .slice q.W q.nw q.cw, .int .i64 q.radius, .int .i64 q.most]
def quBox (q : QuA) : Obj := .cells #[.int .i64 q.kind, .int .i64 q.src, .int .i64 q.dst, .slice q.W q.nw q.cw, .int .i64 q.radius, .int .i64 q.most] 24
def rwBox (a : RwA) : Obj := .cells #[.slice a.A1 a.n1 a.c1, .slice a.A2 a.n2 a.c2, .slice a.A3 a.n3 a.c3, .slice a.A4 a.n4 a.c4] 27
def stBox (x : Msg) : Obj := .cells #[.int .i64 x.slot, .int .i64 x.dir, .int .i64 x.v, .int .i64 x.d] 121
/-- What a state sends. -/
def nxRow (r : Rws) (x : Msg) : List Int := rowD r x.dir x.v.toNat
def nxM (kind radius : Int) (r : Rws) (x : Msg) : List Msg := if kind = 3 ∧ radius ≤ x.d then [] else (nxRow r x).map fun v => ⟨x.slot, x.dir, v, x.d + 1⟩

/-- The three boxes that the walk begins with. -/
structure NxAt (w : World) (q : QuA) (a : RwA) (x : Msg) (W : World) : Prop where
  q_ : W.heap[w.heap.size]? = some (quBox q)
  r_ : W.heap[w.heap.size + 1]? = some (rwBox a)
  x_ : W.heap[w.heap.size + 2]? = some (stBox x)
  bel : Below w.heap.size w W
section
variable {w W W' : World} {q : QuA} {a : RwA} {x : Msg}
theorem NxAt.lt (h : NxAt w q a x W) : w.heap.size + 2 < W.heap.size := (Array.getElem?_eq_some_iff.1 h.x_).1
theorem NxAt.step (h : NxAt w q a x W) (hB : Below W.heap.size W W') : NxAt w q a x W' :=
  have hl := h.lt
  ⟨(hB.block _ (by omega)).trans h.q_, (hB.block _ (by omega)).trans h.r_, (hB.block _ (by omega)).trans h.x_, h.bel.trans (hB.mono (by omega))⟩
theorem nxAt_new (w : World) (q : QuA) (a : RwA) (x : Msg) : NxAt w q a x (((w.alloc (quBox q)).alloc (rwBox a)).alloc (stBox x)) := by
  have h1 := (w.alloc (quBox q)).alloc_heap_new (rwBox a)
  have h2 := ((w.alloc (quBox q)).alloc (rwBox a)).alloc_heap_new (stBox x)
  rw [World.size_alloc] at h1
  rw [World.size_alloc, World.size_alloc] at h2
  refine ⟨?_, ?_, h2, ((below_one w _).trans ((below_one _ _).mono (by simp))).trans ((below_one _ _).mono (by simp; omega))⟩
  · rw [Below.heap_alloc _ _ _ (by simp; omega), Below.heap_alloc _ _ _ (by simp)]
    exact w.alloc_heap_new _
  · rw [Below.heap_alloc _ _ _ (by simp)]
    exact h1
theorem NxAt.rw_ (h : NxAt w q a x W) (hr : RwIn w w.heap.size a) : RwIn W W.heap.size a := (hr.below h.bel).more h.bel.size
theorem NxAt.qc (h : NxAt w q a x W) : W.cell? ⟨w.heap.size, 0, none⟩ = some (.int .i64 q.kind) ∧ W.cell? ⟨w.heap.size, 4, none⟩ = some (.int .i64 q.radius) := by
  refine ⟨?_, ?_⟩ <;> · rw [Lib.cell_of_heap h.q_]; rfl
theorem NxAt.rc (h : NxAt w q a x W) : W.cell? ⟨w.heap.size + 1, 0, none⟩ = some (.slice a.A1 a.n1 a.c1) ∧ W.cell? ⟨w.heap.size + 1, 1, none⟩ = some (.slice a.A2 a.n2 a.c2) ∧ W.cell? ⟨w.heap.size + 1, 2, none⟩ = some (.slice a.A3 a.n3 a.c3) ∧ W.cell? ⟨w.heap.size + 1, 3, none⟩ = some (.slice a.A4 a.n4 a.c4) := by
  refine ⟨?_, ?_, ?_, ?_⟩ <;> · rw [Lib.cell_of_heap h.r_]; rfl
theorem NxAt.xc (h : NxAt w q a x W) : W.cell? ⟨w.heap.size + 2, 0, none⟩ = some (.int .i64 x.slot) ∧ W.cell? ⟨w.heap.size + 2, 1, none⟩ = some (.int .i64 x.dir) ∧ W.cell? ⟨w.heap.size + 2, 2, none⟩ = some (.int .i64 x.v) ∧ W.cell? ⟨w.heap.size + 2, 3, none⟩ = some (.int .i64 x.d) := by
  refine ⟨?_, ?_, ?_, ?_⟩ <;> · rw [Lib.cell_of_heap h.x_]; rfl
end

set_option maxRecDepth 100000 in
set_option maxHeartbeats 4000000 in
theorem nextP_c (q : QuA) (a : RwA) (x : Msg) (w : World) (h : RwIn w w.heap.size a) (hc : chkR a.r) (hd : x.dir = 0 ∨ x.dir = 1) (hv : 0 ≤ x.v ∧ x.v < (a.r.n : Int)) (hxd : 0 ≤ x.d ∧ x.d ≤ 200) :
    Calls Tryz.prog 92 #[quVal q, rwVal a, mval x] w fun e w' => ∃ A' k c', e = .returned (.tuple #[.slice A' k c', .int .i64 0]) ∧ k = (nxM q.kind q.radius a.r x).length ∧ w'.ownsRow w.heap.size 79 4 (.slice A' k c') k (mv (nxM q.kind q.radius a.r x)) ∧ Below w.heap.size w w' := by
  show Calls Tryz.prog 92 #[.agg #[.int .i64 q.kind, .int .i64 q.src, .int .i64 q.dst, .slice q.W q.nw q.cw, .int .i64 q.radius, .int .i64 q.most], .agg #[.slice a.A1 a.n1 a.c1, .slice a.A2 a.n2 a.c2, .slice a.A3 a.n3 a.c3, .slice a.A4 a.n4 a.c4], .agg #[.int .i64 x.slot, .int .i64 x.dir, .int .i64 x.v, .int .i64 x.d]] w _
  obtain ⟨s, dir, xv, d⟩ := x
  obtain ⟨v, rfl⟩ : ∃ v : Nat, xv = (v : Int) := ⟨xv.toNat, by simp only at hv; omega⟩
  have hvn : v < a.r.n := by simp only at hv; omega
  have g1 : ¬ d < 0 := by simp only at hxd; omega
  have g2 : ¬ (200 : Int) < d := by simp only at hxd; omega
  have HR := Lib.hid h
  have HC := Lib.hid hc
  clear hv hxd h hc
  simp only at hd ⊢
  rcases hd with rfl | rfl
  · have hx := nxAt_new w q a ⟨s, 0, (v : Int), d⟩
    obtain ⟨r0, r1, r2, r3⟩ := hx.rc
    obtain ⟨x0, x1, x2, x3⟩ := hx.xc
    unfold quBox rwBox stBox at r0 r1 r2 r3 x0 x1 x2 x3
    have HX := Lib.hid hx
    clear hx
    go_enter Tryz.func92, Tryz.ntmps92
    go_wp2_with (fail)
    refine (out_c a v _ (HX.out.rw_ HR.out) HC.out hvn).mono ?_
    rintro e w1 ⟨A1, k1, d1, rfl, hk1, ho1, hB1⟩
    have HX1 := Lib.hid (HX.out.step hB1)
    have HO1 := Lib.hid (own_reads ho1)
    have HK1 := Lib.hid hk1
    clear hk1 ho1 hB1 r0 r1 r2 r3 x0 x1 x2 x3
    obtain ⟨r0, r1, r2, r3⟩ := HX1.out.rc
    go_wp2_with (fail)
    refine (rowsCheck_c a _ (HX1.out.rw_ HR.out)).mono ?_
    rintro e w2 ⟨rfl, hB2⟩
    rw [decide_eq_true HC.out]
    have HX2 := Lib.hid (HX1.out.step hB2)
    have HO2 := Lib.hid ((HO1.out.below hB2).more hB2.size)
    clear hB2 r0 r1 r2 r3 HX1 HO1
    obtain ⟨x0, x1, x2, x3⟩ := HX2.out.xc
    obtain ⟨q0, q4⟩ := HX2.out.qc
    have hk2 : k1 ≤ 2000 := by rw [HK1.out]; exact Nat.le_trans (row_len_le _ _ _) HC.out.2.2.1.1.2.1
    by_cases hk3 : q.kind = 3
    · have hk3' : (q.kind == 3) = true := by simpa using hk3
      by_cases hrad : q.radius ≤ d
      · have hnil : Hid (nxM q.kind q.radius a.r ⟨s, 0, (v : Int), d⟩ = []) := if_pos ⟨hk3, hrad⟩
        go_wp2_with (fail)
        go_ret2
        exact ⟨none, 0, 0, rfl, by rw [hnil.out]; rfl, by rw [hnil.out]; exact own_nil, HX2.out.bel⟩
      · have hmap : Hid (nxM q.kind q.radius a.r ⟨s, 0, (v : Int), d⟩ = (rowR a.r.off a.r.to v).map fun u => ⟨s, 0, u, d + 1⟩) := if_neg (fun h => hrad h.2)
        go_wp2_with (fail)
        go_loopw [69, 11] (fun i out wr => ∃ (j : Nat) (A : Option Addr) (c : Nat), j ≤ k1 ∧ i = .int .i64 j ∧ out = .slice A j c ∧ wr.ownsRow w2.heap.size 79 4 (.slice A j c) j (mv (((rowR a.r.off a.r.to v).take j).map fun u => ⟨s, 0, u, d + 1⟩)) ∧ Below w2.heap.size w2 wr) (fun i _ _ => k1 - (intOf i).toNat)
        case atStart => exact ⟨0, none, 0, Nat.zero_le _, rfl, rfl, by simpa [mv] using own_nil, Below.refl _ _⟩
        case round =>
          obtain ⟨j, A, c, hj, rfl, rfl, ho, hB⟩ := hrel
          clear q0 q4 x0 x1 x2 x3
          by_cases hlt : j < k1
          · obtain ⟨b, o, z, rfl, hz, d0⟩ := (HO2.out.below hB).int_at (k := j) hlt
            have HZ := Lib.hid hz.out
            have hx3 := HX2.out.step hB
            obtain ⟨x0, x1, x2, x3⟩ := hx3.xc
            have HB := Lib.hid hB
            have HO := Lib.hid ho
            clear hz hx3 ho hB
            have f1 : (0 : Int) ≤ (j : Int) := by omega
            have f2 : (j : Int) < (k1 : Int) := by omega
            go_wp2_with (at_builtin; refine wpList_push elMail rfl _ _ rfl HO.out rfl _ rfl rfl (mc_one ⟨s, 0, z, d + 1⟩) (by unfold maxLen; omega) (by omega) HB.out.size ?_; intro A4 c4 w4 hoo4 p4)
            have hB4 := Lib.hid (p4.below HO.out HB.out (Nat.le_refl _) HB.out.size)
            have hO4 := Lib.hid hoo4
            clear p4 hoo4
            go_roundw
            case rel =>
              refine ⟨j + 1, A4, c4, by omega, by go_num, rfl, ?_, hB4.out⟩
              rw [List.take_add_one, HZ.out, Option.toList_some, List.map_append, mv_append]
              simpa [mv, mc] using hO4.out
            case measure => simp [intOf]; omega
          · obtain rfl : j = k1 := by omega
            have HB := Lib.hid hB
            have HO : Hid (wr.ownsRow w.heap.size 79 4 (.slice A j c) j (mv (nxM q.kind q.radius a.r ⟨s, 0, (v : Int), d⟩))) := by
              rw [List.take_of_length_le (by rw [HK1.out]; exact Nat.le_refl _), ← hmap.out] at ho
              exact own_more ho HX2.out.bel.size
            have HL : Hid (j = (nxM q.kind q.radius a.r ⟨s, 0, (v : Int), d⟩).length) := by show _ = _; rw [hmap.out, List.length_map]; exact HK1.out
            clear ho hB
            go_wp2_with (fail)
            go_ret2
            exact ⟨A, _, c, rfl, HL.out, HO.out, (HX2.out.bel.trans (HB.out.mono HX2.out.bel.size))⟩
    · have hk3' : (q.kind == 3) = false := by simpa using hk3
      have hmap : Hid (nxM q.kind q.radius a.r ⟨s, 0, (v : Int), d⟩ = (rowR a.r.off a.r.to v).map fun u => ⟨s, 0, u, d + 1⟩) := if_neg (fun h => hk3 h.1)
      go_wp2_with (fail)
      go_loopw [69, 11] (fun i out wr => ∃ (j : Nat) (A : Option Addr) (c : Nat), j ≤ k1 ∧ i = .int .i64 j ∧ out = .slice A j c ∧ wr.ownsRow w2.heap.size 79 4 (.slice A j c) j (mv (((rowR a.r.off a.r.to v).take j).map fun u => ⟨s, 0, u, d + 1⟩)) ∧ Below w2.heap.size w2 wr) (fun i _ _ => k1 - (intOf i).toNat)
      case atStart => exact ⟨0, none, 0, Nat.zero_le _, rfl, rfl, by simpa [mv] using own_nil, Below.refl _ _⟩
      case round =>
        obtain ⟨j, A, c, hj, rfl, rfl, ho, hB⟩ := hrel
        clear q0 q4 x0 x1 x2 x3
        by_cases hlt : j < k1
        · obtain ⟨b, o, z, rfl, hz, d0⟩ := (HO2.out.below hB).int_at (k := j) hlt
          have HZ := Lib.hid hz.out
          have hx3 := HX2.out.step hB
          obtain ⟨x0, x1, x2, x3⟩ := hx3.xc
          have HB := Lib.hid hB
          have HO := Lib.hid ho
          clear hz hx3 ho hB
          have f1 : (0 : Int) ≤ (j : Int) := by omega
          have f2 : (j : Int) < (k1 : Int) := by omega
          go_wp2_with (at_builtin; refine wpList_push elMail rfl _ _ rfl HO.out rfl _ rfl rfl (mc_one ⟨s, 0, z, d + 1⟩) (by unfold maxLen; omega) (by omega) HB.out.size ?_; intro A4 c4 w4 hoo4 p4)
          have hB4 := Lib.hid (p4.below HO.out HB.out (Nat.le_refl _) HB.out.size)
          have hO4 := Lib.hid hoo4
          clear p4 hoo4
          go_roundw
          case rel =>
            refine ⟨j + 1, A4, c4, by omega, by go_num, rfl, ?_, hB4.out⟩
            rw [List.take_add_one, HZ.out, Option.toList_some, List.map_append, mv_append]
            simpa [mv, mc] using hO4.out
          case measure => simp [intOf]; omega
        · obtain rfl : j = k1 := by omega
          have HB := Lib.hid hB
          have HO : Hid (wr.ownsRow w.heap.size 79 4 (.slice A j c) j (mv (nxM q.kind q.radius a.r ⟨s, 0, (v : Int), d⟩))) := by
            rw [List.take_of_length_le (by rw [HK1.out]; exact Nat.le_refl _), ← hmap.out] at ho
            exact own_more ho HX2.out.bel.size
          have HL : Hid (j = (nxM q.kind q.radius a.r ⟨s, 0, (v : Int), d⟩).length) := by show _ = _; rw [hmap.out, List.length_map]; exact HK1.out
          clear ho hB
          go_wp2_with (fail)
          go_ret2
          exact ⟨A, _, c, rfl, HL.out, HO.out, (HX2.out.bel.trans (HB.out.mono HX2.out.bel.size))⟩
  · have hx := nxAt_new w q a ⟨s, 1, (v : Int), d⟩
    obtain ⟨r0, r1, r2, r3⟩ := hx.rc
    obtain ⟨x0, x1, x2, x3⟩ := hx.xc
    unfold quBox rwBox stBox at r0 r1 r2 r3 x0 x1 x2 x3
    have HX := Lib.hid hx
    clear hx
    go_enter Tryz.func92, Tryz.ntmps92
    go_wp2_with (fail)
    refine (inR_c a v _ (HX.out.rw_ HR.out) HC.out hvn).mono ?_
    rintro e w1 ⟨A1, k1, d1, rfl, hk1, ho1, hB1⟩
    have HX1 := Lib.hid (HX.out.step hB1)
    have HO1 := Lib.hid (own_reads ho1)
    have HK1 := Lib.hid hk1
    clear hk1 ho1 hB1 r0 r1 r2 r3 x0 x1 x2 x3
    obtain ⟨r0, r1, r2, r3⟩ := HX1.out.rc
    go_wp2_with (fail)
    refine (rowsCheck_c a _ (HX1.out.rw_ HR.out)).mono ?_
    rintro e w2 ⟨rfl, hB2⟩
    rw [decide_eq_true HC.out]
    have HX2 := Lib.hid (HX1.out.step hB2)
    have HO2 := Lib.hid ((HO1.out.below hB2).more hB2.size)
    clear hB2 r0 r1 r2 r3 HX1 HO1
    obtain ⟨x0, x1, x2, x3⟩ := HX2.out.xc
    obtain ⟨q0, q4⟩ := HX2.out.qc
    have hk2 : k1 ≤ 2000 := by rw [HK1.out]; exact Nat.le_trans (row_len_le _ _ _) HC.out.2.2.2.1.1.2.1
    by_cases hk3 : q.kind = 3
    · have hk3' : (q.kind == 3) = true := by simpa using hk3
      by_cases hrad : q.radius ≤ d
      · have hnil : Hid (nxM q.kind q.radius a.r ⟨s, 1, (v : Int), d⟩ = []) := if_pos ⟨hk3, hrad⟩
        go_wp2_with (fail)
        go_ret2
        exact ⟨none, 0, 0, rfl, by rw [hnil.out]; rfl, by rw [hnil.out]; exact own_nil, HX2.out.bel⟩
      · have hmap : Hid (nxM q.kind q.radius a.r ⟨s, 1, (v : Int), d⟩ = (rowR a.r.roff a.r.rev v).map fun u => ⟨s, 1, u, d + 1⟩) := if_neg (fun h => hrad h.2)
        go_wp2_with (fail)
        go_loopw [69, 11] (fun i out wr => ∃ (j : Nat) (A : Option Addr) (c : Nat), j ≤ k1 ∧ i = .int .i64 j ∧ out = .slice A j c ∧ wr.ownsRow w2.heap.size 79 4 (.slice A j c) j (mv (((rowR a.r.roff a.r.rev v).take j).map fun u => ⟨s, 1, u, d + 1⟩)) ∧ Below w2.heap.size w2 wr) (fun i _ _ => k1 - (intOf i).toNat)
        case atStart => exact ⟨0, none, 0, Nat.zero_le _, rfl, rfl, by simpa [mv] using own_nil, Below.refl _ _⟩
        case round =>
          obtain ⟨j, A, c, hj, rfl, rfl, ho, hB⟩ := hrel
          clear q0 q4 x0 x1 x2 x3
          by_cases hlt : j < k1
          · obtain ⟨b, o, z, rfl, hz, d0⟩ := (HO2.out.below hB).int_at (k := j) hlt
            have HZ := Lib.hid hz.out
            have hx3 := HX2.out.step hB
            obtain ⟨x0, x1, x2, x3⟩ := hx3.xc
            have HB := Lib.hid hB
            have HO := Lib.hid ho
            clear hz hx3 ho hB
            have f1 : (0 : Int) ≤ (j : Int) := by omega
            have f2 : (j : Int) < (k1 : Int) := by omega
            go_wp2_with (at_builtin; refine wpList_push elMail rfl _ _ rfl HO.out rfl _ rfl rfl (mc_one ⟨s, 1, z, d + 1⟩) (by unfold maxLen; omega) (by omega) HB.out.size ?_; intro A4 c4 w4 hoo4 p4)
            have hB4 := Lib.hid (p4.below HO.out HB.out (Nat.le_refl _) HB.out.size)
            have hO4 := Lib.hid hoo4
            clear p4 hoo4
            go_roundw
            case rel =>
              refine ⟨j + 1, A4, c4, by omega, by go_num, rfl, ?_, hB4.out⟩
              rw [List.take_add_one, HZ.out, Option.toList_some, List.map_append, mv_append]
              simpa [mv, mc] using hO4.out
            case measure => simp [intOf]; omega
          · obtain rfl : j = k1 := by omega
            have HB := Lib.hid hB
            have HO : Hid (wr.ownsRow w.heap.size 79 4 (.slice A j c) j (mv (nxM q.kind q.radius a.r ⟨s, 1, (v : Int), d⟩))) := by
              rw [List.take_of_length_le (by rw [HK1.out]; exact Nat.le_refl _), ← hmap.out] at ho
              exact own_more ho HX2.out.bel.size
            have HL : Hid (j = (nxM q.kind q.radius a.r ⟨s, 1, (v : Int), d⟩).length) := by show _ = _; rw [hmap.out, List.length_map]; exact HK1.out
            clear ho hB
            go_wp2_with (fail)
            go_ret2
            exact ⟨A, _, c, rfl, HL.out, HO.out, (HX2.out.bel.trans (HB.out.mono HX2.out.bel.size))⟩
    · have hk3' : (q.kind == 3) = false := by simpa using hk3
      have hmap : Hid (nxM q.kind q.radius a.r ⟨s, 1, (v : Int), d⟩ = (rowR a.r.roff a.r.rev v).map fun u => ⟨s, 1, u, d + 1⟩) := if_neg (fun h => hk3 h.1)
      go_wp2_with (fail)
      go_loopw [69, 11] (fun i out wr => ∃ (j : Nat) (A : Option Addr) (c : Nat), j ≤ k1 ∧ i = .int .i64 j ∧ out = .slice A j c ∧ wr.ownsRow w2.heap.size 79 4 (.slice A j c) j (mv (((rowR a.r.roff a.r.rev v).take j).map fun u => ⟨s, 1, u, d + 1⟩)) ∧ Below w2.heap.size w2 wr) (fun i _ _ => k1 - (intOf i).toNat)
      case atStart => exact ⟨0, none, 0, Nat.zero_le _, rfl, rfl, by simpa [mv] using own_nil, Below.refl _ _⟩
      case round =>
        obtain ⟨j, A, c, hj, rfl, rfl, ho, hB⟩ := hrel
        clear q0 q4 x0 x1 x2 x3
        by_cases hlt : j < k1
        · obtain ⟨b, o, z, rfl, hz, d0⟩ := (HO2.out.below hB).int_at (k := j) hlt
          have HZ := Lib.hid hz.out
          have hx3 := HX2.out.step hB
          obtain ⟨x0, x1, x2, x3⟩ := hx3.xc
          have HB := Lib.hid hB
          have HO := Lib.hid ho
          clear hz hx3 ho hB
          have f1 : (0 : Int) ≤ (j : Int) := by omega
          have f2 : (j : Int) < (k1 : Int) := by omega
          go_wp2_with (at_builtin; refine wpList_push elMail rfl _ _ rfl HO.out rfl _ rfl rfl (mc_one ⟨s, 1, z, d + 1⟩) (by unfold maxLen; omega) (by omega) HB.out.size ?_; intro A4 c4 w4 hoo4 p4)
          have hB4 := Lib.hid (p4.below HO.out HB.out (Nat.le_refl _) HB.out.size)
          have hO4 := Lib.hid hoo4
          clear p4 hoo4
          go_roundw
          case rel =>
            refine ⟨j + 1, A4, c4, by omega, by go_num, rfl, ?_, hB4.out⟩
            rw [List.take_add_one, HZ.out, Option.toList_some, List.map_append, mv_append]
            simpa [mv, mc] using hO4.out
          case measure => simp [intOf]; omega
        · obtain rfl : j = k1 := by omega
          have HB := Lib.hid hB
          have HO : Hid (wr.ownsRow w.heap.size 79 4 (.slice A j c) j (mv (nxM q.kind q.radius a.r ⟨s, 1, (v : Int), d⟩))) := by
            rw [List.take_of_length_le (by rw [HK1.out]; exact Nat.le_refl _), ← hmap.out] at ho
            exact own_more ho HX2.out.bel.size
          have HL : Hid (j = (nxM q.kind q.radius a.r ⟨s, 1, (v : Int), d⟩).length) := by show _ = _; rw [hmap.out, List.length_map]; exact HK1.out
          clear ho hB
          go_wp2_with (fail)
          go_ret2
          exact ⟨A, _, c, rfl, HL.out, HO.out, (HX2.out.bel.trans (HB.out.mono HX2.out.bel.size))⟩
end Go.Proofs.YtpdnipabaimofaaGreat

namespace Go.Proofs.YtpdnipabaimofaaGreat
open Go.RowKit

theorem incr_ge : ∀ {l : List Int} {b : Int}, incr l → (∀ w ∈ l, b ≤ w) → ∀ w, l.getLast? = some w → b + (l.length : Int) ≤ w + 1
  | [], _, _, _, w, h => by simp at h
  | [x], b, _, h, w, hw => by
    simp at hw
    subst hw
    have := h x (by simp)
    simp
    omega
  | x :: y :: l, b, hi, h, w, hw => by
    have h1 := incr_ge (l := y :: l) (b := b + 1) hi.2 (fun z hz => by
      have hp := (List.pairwise_cons.1 (incr_lt hi)).1 z hz
      have := h x (by simp)
      omega) w (by rw [List.getLast?_cons_cons] at hw; exact hw)
    simp only [List.length_cons] at h1 ⊢
    omega
theorem good_len {n : Nat} {l : List Int} (h : goodRowI n l) : l.length ≤ n := by
  rcases hl : l.getLast? with _ | w
  · rw [List.getLast?_eq_none_iff] at hl
    rw [hl]; simp
  · have h1 := incr_ge h.2 (b := 0) (fun w hw => (h.1 w hw).1) w hl
    have h2 := (h.1 w (List.mem_of_getLast? hl)).2
    omega
theorem nxRow_len {r : Rws} (hc : chkR r) (x : Msg) (hv : 0 ≤ x.v ∧ x.v < (r.n : Int)) : (nxRow r x).length ≤ 200 := by
  have hn : r.off.length ≤ 201 := hc.2.2.1.1.1.2
  have hx : x.v.toNat < r.n := by omega
  unfold Rws.n at hx
  unfold nxRow rowD
  split
  · have h1 := good_len (hc.2.2.2.1.2 x.v.toNat (List.mem_range.2 (by have := hc.1; omega)))
    have := hc.1
    omega
  · have h1 := good_len (hc.2.2.1.2 x.v.toNat (List.mem_range.2 hx))
    omega
theorem nxM_len {kind radius : Int} {r : Rws} (hc : chkR r) (x : Msg) (hv : 0 ≤ x.v ∧ x.v < (r.n : Int)) : (nxM kind radius r x).length ≤ 200 := by
  unfold nxM
  split
  · simp
  · rw [List.length_map]; exact nxRow_len hc x hv

section
variable (B : Nat) (p : Msg → Bool)
set_option maxRecDepth 100000 in
set_option maxHeartbeats 2000000 in
theorem indexB_c (A : Option Addr) (n c : Nat) (l : List Msg) (w : World) (hr : Reads w w.heap.size 4 A n (mv l)) (hn : n ≤ maxLen)
    (HP : ∀ x ∈ l, ∀ W : World, Below w.heap.size w W → Calls Tryz.prog 47 #[.agg #[.int .i64 x.slot, .int .i64 x.dir, .int .i64 x.v, .int .i64 x.d], .pointer (some ⟨B, 0, none⟩)] W fun e w' => e = .returned (.bool (p x)) ∧ Below W.heap.size W w') :
    Calls Tryz.prog 89 #[.slice A n c, .func (.func 47) #[] #[.pointer (some ⟨B, 0, none⟩)]] w fun e w' => e = .returned (.int .i64 (idxI p l)) ∧ Below w.heap.size w w' := by
  have hl := Lib.hid hr.mail_len
  unfold maxLen at hn
  have HR := Lib.hid hr
  have HPP := Lib.hid HP
  clear hr HP
  go_enter Tryz.func89, Tryz.ntmps89
  go_wp2_with (fail)
  go_loopw [8] (fun i wr => ∃ j : Nat, j ≤ n ∧ i = .int .i64 j ∧ Hid (∀ y ∈ l.take j, p y = false) ∧ Below w.heap.size w wr) (fun i _ => n - (intOf i).toNat)
  case atStart => exact ⟨0, Nat.zero_le _, rfl, fun y hy => by simp at hy, Below.refl _ _⟩
  case round =>
    obtain ⟨j, hj, rfl, hT, hB⟩ := hrel
    by_cases hlt : j < n
    · obtain ⟨b, o, x, rfl, hx, d0, d1, d2, d3⟩ := (HR.out.below hB).mail_at hlt
      have HX := Lib.hid hx.out
      have HB := Lib.hid hB
      clear hx hB
      have f1 : (0 : Int) ≤ (j : Int) := by omega
      have f2 : (j : Int) < (n : Int) := by omega
      go_wp2_with (fail)
      refine (HPP.out x (List.mem_of_getElem? HX.out) wr HB.out).mono ?_
      rintro e w1 ⟨rfl, hB1⟩
      have HB1 := Lib.hid (HB.out.trans (hB1.mono HB.out.size))
      clear hB1 d0 d1 d2 d3
      by_cases hp : p x = true
      · have hi : Hid (idxI p l = (j : Int)) := by show _ = _; unfold idxI; rw [idx_at hT.out HX.out hp]; rfl
        rw [hp]
        go_wp2_with (fail)
        go_ret
        exact ⟨ret_int hi.out.symm, HB1.out⟩
      · have hp' : p x = false := by simpa using hp
        rw [hp']
        have hT' : Hid (∀ y ∈ l.take (j + 1), p y = false) := fun y hy => by
          rw [List.take_add_one, HX.out, Option.toList_some] at hy
          rcases List.mem_append.1 hy with hy | hy
          · exact hT.out y hy
          · rw [List.mem_singleton.1 hy]; exact hp'
        clear hp hp'
        go_wp2_with (fail)
        go_roundw
        case rel => exact ⟨j + 1, by omega, by go_num, hT', HB1.out⟩
        case measure => simp [intOf]; omega
    · obtain rfl : j = n := by omega
      have hi : Hid (idxI p l = -1) := by
        show _ = _
        unfold idxI
        rw [idx_none (fun y hy => hT.out y (by rw [List.take_of_length_le (by rw [hl.out]; exact Nat.le_refl _)]; exact hy))]
        rfl
      go_wp2_with (fail)
      go_ret
      exact ⟨ret_int hi.out.symm, hB⟩

end
theorem idx_any (p : Msg → Bool) (l : List Msg) : decide (0 ≤ idxI p l) = l.any p := by
  unfold idxI
  cases h : l.findIdx? p with
  | none =>
    rw [List.findIdx?_eq_none_iff] at h
    have : l.any p = false := by rw [List.any_eq_false]; intro x hx; rw [h x hx]; exact Bool.false_ne_true
    rw [this]; rfl
  | some i =>
    obtain ⟨h1, h2, -⟩ := List.findIdx?_eq_some_iff_getElem.1 h
    have : l.any p = true := List.any_eq_true.2 ⟨_, List.getElem_mem h1, h2⟩
    rw [this]
    simp

set_option maxRecDepth 100000 in
theorem step1_c (x : Msg) (B : Nat) (m : Int) (W : World) (hc : W.cell? ⟨B, 0, none⟩ = some (.int .i64 m)) :
    Calls Tryz.prog 47 #[.agg #[.int .i64 x.slot, .int .i64 x.dir, .int .i64 x.v, .int .i64 x.d], .pointer (some ⟨B, 0, none⟩)] W fun e w' => e = .returned (.bool (decide (m ≤ x.v))) ∧ Below W.heap.size W w' := by
  have hc' := ((below_one W (.cells #[.int .i64 x.slot, .int .i64 x.dir, .int .i64 x.v, .int .i64 x.d] 79)).cell (p := ⟨B, 0, none⟩) (block_lt_of_cell hc)).trans hc
  clear hc
  go_enter Tryz.func47, Tryz.ntmps47
  go_wp2_with (fail)
  go_ret
  exact ⟨rfl, below_one _ _⟩

set_option maxRecDepth 100000 in
theorem containsB_c (A : Option Addr) (n c B : Nat) (l : List Msg) (m : Int) (w : World) (hr : Reads w w.heap.size 4 A n (mv l)) (hn : n ≤ maxLen) (hB : B < w.heap.size) (hc : w.cell? ⟨B, 0, none⟩ = some (.int .i64 m)) :
    Calls Tryz.prog 53 #[.slice A n c, .func (.func 47) #[] #[.pointer (some ⟨B, 0, none⟩)]] w fun e w' => e = .returned (.bool (l.any fun x => decide (m ≤ x.v))) ∧ Below w.heap.size w w' := by
  have HI := Lib.hid (indexB_c B (fun x => decide (m ≤ x.v)) A n c l w hr hn (fun x _ W hW => step1_c x B m W ((hW.cell (p := ⟨B, 0, none⟩) hB).trans hc)))
  clear hr hc
  go_enter Tryz.func53, Tryz.ntmps53
  go_wp2_with (fail)
  refine Calls.mono HI.out ?_
  rintro e w1 ⟨rfl, hB1⟩
  have HB := Lib.hid hB1
  clear hB1
  generalize hi : idxI (fun x => decide (m ≤ x.v)) l = i
  have HE : Hid (decide (0 ≤ i) = l.any fun x => decide (m ≤ x.v)) := by show _ = _; rw [← hi]; exact idx_any _ _
  clear hi
  go_wp2_with (fail)
  go_ret
  exact ⟨ret_bool HE.out, HB.out⟩

/-- Whether an order is had. -/
theorem order_w (C : Option Addr) (k : Int) (m d : Nat) (ps : List Int) (w : World) (hrp : Reads w w.heap.size 1 C m (iv ps)) (hm : m ≤ maxLen) :
    Calls Tryz.prog 48 #[.int .i64 k, .slice C m d] w fun e w' => ∃ A' n' c', e = .returned (.tuple #[.slice A' n' c', .int .i64 (if 0 ≤ k ∧ k ≤ 1000 then 0 else 1)]) ∧ Below w.heap.size w w' := by
  by_cases hk : 0 ≤ k ∧ k ≤ 1000
  · rw [if_pos hk]
    obtain ⟨q, rfl⟩ : ∃ q : Nat, k = (q : Int) := ⟨k.toNat, by omega⟩
    refine (turnOrder_c C q m d ps w (by omega) hrp hm).mono ?_
    rintro e w' ⟨A', c', rfl, _, hB⟩
    exact ⟨A', q, c', rfl, hB⟩
  · rw [if_neg hk]
    refine (order_no C k m d w (by omega)).mono ?_
    rintro e w' ⟨rfl, rfl⟩
    exact ⟨none, 0, 0, rfl, Below.refl _ _⟩
instance (k : Int) (xs : List Msg) : Decidable (splitOk k xs) := by unfold splitOk allMay; infer_instance
theorem split_w (A : Option Addr) (n c : Nat) (k : Int) (xs : List Msg) (w : World) (hr : Reads w w.heap.size 4 A n (mv xs)) (hn : n ≤ 100000) :
    Calls Tryz.prog 49 #[.slice A n c, .int .i64 k] w fun e w' => ∃ A' n' c', e = .returned (.tuple #[.slice A' n' c', .int .i64 (if splitOk k xs then 0 else 1)]) ∧ Below w.heap.size w w' := by
  by_cases hk : splitOk k xs
  · rw [if_pos hk]
    obtain ⟨q, rfl⟩ : ∃ q : Nat, k = (q : Int) := ⟨k.toNat, by have := hk.1; omega⟩
    refine (split_c A n c q xs w (by have := hk.1; omega) (by have := hk.1; omega) hr hn hk.2).mono ?_
    rintro e w' ⟨A', c', vs, rfl, _, _, hB⟩
    exact ⟨A', q, c', rfl, hB⟩
  · rw [if_neg hk]
    refine (split_no A n c k xs w hr (by unfold maxLen; omega) hk).mono ?_
    rintro e w' ⟨rfl, hB⟩
    exact ⟨none, 0, 0, rfl, hB⟩
end Go.Proofs.YtpdnipabaimofaaGreat
