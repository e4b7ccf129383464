/-
  Numbers put into a builder, and laid by the reference.
-/
import Derived.Test.YtmnjlhifjjainaaFrReq
namespace Go.Proofs.Ytmnjlhifjjainaa
open Go.RowKit

/-- What a builder's writing keeps: whatever is not the builder, and no row of bytes. -/
def Keeps (b : Nat) (w w' : World) : Prop := ∀ k xs T fz, k ≠ b → T ≠ 5 → w.heap[k]? = some (.cells xs T fz) → w'.heap[k]? = some (.cells xs T fz)
theorem Keeps.refl (b : Nat) (w : World) : Keeps b w w := fun _ _ _ _ _ _ h => h
theorem Keeps.trans {b : Nat} {w w' w'' : World} (h : Keeps b w w') (h' : Keeps b w' w'') : Keeps b w w'' := fun k xs T fz a c d => h' k xs T fz a c (h k xs T fz a c d)
theorem Keeps.of_below {b : Nat} {w w' : World} (h : Below w.heap.size w w') : Keeps b w w' := fun k _ _ _ _ _ d => (h.block k (Array.getElem?_eq_some_iff.1 d).1).trans d
theorem isB_below {w w' : World} {B b : Nat} {l : List UInt8} (h : IsB w B b l) (hb : Below w.heap.size w w') : IsB w' B b l := by
  have key : ∀ p, Lib.BuilderAt 65 5 B b p (Lib.byteCells l) w → Lib.BuilderAt 65 5 B b p (Lib.byteCells l) w' := by
    intro p hp
    have hlt := hp.lt
    obtain ⟨hB, v, hbk, hown, hne⟩ := hp
    obtain ⟨A, c, rfl, _⟩ := own_form hown
    exact ⟨hB, _, (hb.block b hlt).trans hbk, own_below hown hb, hne⟩
  rcases h with h | h
  · exact .inl (key _ h)
  · exact .inr (key _ h)
theorem keeps_set (w : World) (b o : Nat) (u : Value) : Keeps b w (w.setCell ⟨b, o, none⟩ u) := fun k _ _ _ hk _ d => (Below.heap_setCell w ⟨b, o, none⟩ u k hk).trans d
theorem keeps_grown {b : Nat} {w w' : World} {B n : Nat} {v : Value} {l : List Value} (hown : w.ownsRow B 5 1 v n l) (hg : w.grownBy w' v.ownBlock) : Keeps b w w' := by
  intro k xs T fz _ hT hd
  refine (hg.block k (Array.getElem?_eq_some_iff.1 hd).1 ?_).trans hd
  rcases hown.2 with ⟨rfl, rfl⟩ | ⟨g, cap, cur, rfl, hb, hgg, h1, h2, _⟩
  · intro h; cases h
  · intro h
    have : k = g := by injection h
    subst this
    rw [hgg] at hd
    injection hd with hd
    injection hd with _ hd _
    exact hT hd.symm

set_option maxRecDepth 100000 in
set_option maxHeartbeats 1000000 in
theorem writeKeep_c (B b : Nat) (l : List UInt8) (s : ByteArray) (w : World) (h : IsB w B b l) (hlen : l.length + s.size ≤ 140737488355328) (hBw : B ≤ w.heap.size) :
    Calls Try.prog 38 #[.pointer (some ⟨b, 0, none⟩), .string s] w fun e w' => e = .returned (.tuple #[.int .i64 s.size, .nilIface]) ∧ IsB w' B b (l ++ s.data.toList) ∧ Below B w w' ∧ Keeps b w w' := by
  obtain ⟨i0, hi, hz0, hz1, hz2⟩ := info_parts infoByte
  have hcc : Calls Try.prog 84 #[.pointer (some ⟨b, 0, none⟩)] w fun e w' => e = .returned (.tuple #[]) ∧ (Lib.BuilderAt 65 5 B b (.pointer (some ⟨b, 0, none⟩)) (Lib.byteCells l) w' ∧ Below B w w' ∧ Keeps b w w') := by
    rcases h with h | h
    · refine (copyCheck_fresh b w h.cell0 h.shape h.frozen0).mono ?_
      rintro e w' ⟨rfl, rfl⟩
      exact ⟨rfl, h.used _, (Below.refl B w).setCell (p := ⟨b, 0, none⟩) h.1 _, keeps_set _ _ _ _⟩
    · refine (copyCheck_used b w h.cell0).mono ?_
      rintro e w' ⟨rfl, rfl⟩
      exact ⟨rfl, h, Below.refl B _, Keeps.refl _ _⟩
  have HC := Lib.hid hcc
  clear hcc h
  have hll : (Lib.byteCells l).length = l.length := Lib.byteCells_length l
  go_enter Try.func38, Try.ntmps38
  go_wp2_with (go_at_call 84; refine HC.out.mono ?_)
  rintro e w1 ⟨rfl, h1, hb1, hk1⟩
  obtain ⟨hB, v, hbk, hown, hne⟩ := h1
  have c0 : w1.cell? ⟨b, 0, none⟩ = some (.pointer (some ⟨b, 0, none⟩)) := by rw [Lib.cell_of_heap hbk]; rfl
  have c1 : w1.cell? ⟨b, 1, none⟩ = some v := by rw [Lib.cell_of_heap hbk]; rfl
  have hBw1 := hb1.size
  have HK := Lib.hid hk1
  clear hk1
  go_wp2_with (at_builtin; refine Lib.wpList_append_own_string _ rfl _ _ 63 9 rfl B 5 i0 Try.underlying63 Try.underlying9 hi hz0 hz1 hz2 _ _ _ rfl hown s rfl ?c3 ?c4 ?c5 ?_)
  case c3 => unfold maxLen; omega
  case c4 => omega
  case c5 => omega
  intro v' w2 hown' hgrow _
  have HK2 := Lib.hid (HK.out.trans (keeps_grown (b := b) hown hgrow))
  have hlt : b < w1.heap.size := by
    rcases Nat.lt_or_ge b w1.heap.size with h' | h'
    · exact h'
    · simp [Array.getElem?_eq_none h'] at hbk
  have hb2 : w2.heap[b]? = some (.cells #[.pointer (some ⟨b, 0, none⟩), v] 65 (0, 0)) := by
    rw [hgrow.block b hlt (fun e => hne e.symm)]
    exact hbk
  have d0 : w2.cell? ⟨b, 0, none⟩ = some (.pointer (some ⟨b, 0, none⟩)) := by rw [Lib.cell_of_heap hb2]; rfl
  have d1 : w2.cell? ⟨b, 1, none⟩ = some v := by rw [Lib.cell_of_heap hb2]; rfl
  have f1 : w2.frozen? ⟨b, 1, none⟩ = false := Lib.frozen_of_heap hb2 1
  obtain ⟨ao, n', cap, rfl⟩ : ∃ ao n' cap, v' = .slice ao n' cap := by
    rcases hown'.2 with ⟨hv, _⟩ | ⟨g, cap, cur, hv, _⟩
    · exact ⟨_, _, _, hv⟩
    · exact ⟨_, _, _, hv⟩
  have HOWN := Lib.hid hown'
  clear hown' hll
  go_wp2
  go_ret2
  refine ⟨rfl, ?_, ?_, ?_⟩
  · have hbs : Lib.byteCells (l ++ s.data.toList) = Lib.byteCells l ++ Lib.strCells s := by simp [Lib.byteCells, Lib.strCells]
    refine Or.inr ?_
    rw [hbs]
    exact Lib.BuilderAt.put (T := 65) (e := 5) hB hb2 (bs' := Lib.byteCells l ++ Lib.strCells s) (by have h := HOWN.out; simp only [Lib.byteCells_length, List.length_append, Lib.strCells_length] at h ⊢; exact h) (by decide)
  · exact (hb1.grown hgrow (by omega) (fun k hk => (hown.lt k hk).1)).setCell (p := ⟨b, 1, none⟩) hB _
  · exact HK2.out.trans (keeps_set _ _ _ _)

theorem isB_ty {w : World} {B b : Nat} {l : List UInt8} (h : IsB w B b l) : ∃ xs fz, w.heap[b]? = some (.cells xs 65 fz) := by
  rcases h with h | h <;> · obtain ⟨_, v, hbk, _, _⟩ := h; exact ⟨_, _, hbk⟩

/-- A row of numbers in a block of its own. -/
def RowAt (w : World) (a : Nat) (xs : List Int) : Prop := w.heap[a]? = some (.cells (iv xs).toArray 3 (0, 0))
theorem RowAt.reads {w : World} {a : Nat} {xs : List Int} (h : RowAt w a xs) : Reads w w.heap.size 1 (some ⟨a, 0, none⟩) xs.length (iv xs) := by
  refine ⟨by simp [iv], fun _ => ⟨a, 0, rfl, (Array.getElem?_eq_some_iff.1 h).1, fun j u hu => ?_⟩⟩
  rw [Lib.cell_of_heap h]
  simpa using hu
theorem row_new (w : World) (xs : List Int) : RowAt (w.alloc (.cells (iv xs).toArray 3)) w.heap.size xs := Array.getElem?_push_size
theorem RowAt.keep {w w' : World} {a b : Nat} {xs : List Int} (h : RowAt w a xs) (hk : Keeps b w w') (hne : a ≠ b) : RowAt w' a xs := hk _ _ _ _ hne (by decide) h

set_option maxRecDepth 100000 in
set_option maxHeartbeats 2000000 in
theorem put_c (B b a n : Nat) (l : List UInt8) (xs : List Int) (w : World) (hnx : xs.length = n) (h : IsB w B b l) (hrow : RowAt w a xs) (hn : n ≤ 10) (hlen : l.length ≤ 100000000) (hBw : B ≤ w.heap.size) :
    Calls Try.prog 36 #[.pointer (some ⟨b, 0, none⟩), .slice (some ⟨a, 0, none⟩) n n] w fun e w' => e = .returned (.tuple #[]) ∧ IsB w' B b (l ++ layB xs) ∧ Below B w w' ∧ Keeps b w w' := by
  have hab : a ≠ b := by
    rintro rfl
    obtain ⟨x1, f1, e1⟩ := isB_ty h
    unfold RowAt at hrow
    rw [hrow] at e1
    injection e1 with e1
    injection e1 with _ e1 _
    revert e1
    decide
  have HL := Lib.hid hnx
  clear hnx
  go_enter Try.func36, Try.ntmps36
  go_wp2_with (fail)
  go_loopw [10] (fun i wr => ∃ k : Nat, k ≤ n ∧ i = .int .i64 k ∧ IsB wr B b (l ++ layB (xs.take k)) ∧ RowAt wr a xs ∧ Below B w wr ∧ Keeps b w wr ∧ B ≤ wr.heap.size) (fun i _ => n - (intOf i).toNat)
  case atStart => exact ⟨0, Nat.zero_le _, rfl, by simpa [layB] using h, hrow, Below.refl _ _, Keeps.refl _ _, hBw⟩
  case round =>
    clear h hrow hBw
    obtain ⟨k, hk, rfl, hib, hrw, hB, hkp, hbs⟩ := hrel
    by_cases hlt : k < n
    · have hrd := hrw.reads
      rw [HL.out] at hrd
      obtain ⟨a1, o1, x, he1, hx, hc1⟩ := hrd.int_at hlt
      clear hrd
      injection he1 with he1
      injection he1 with he1 ho1 _
      subst he1 ho1
      rw [Nat.zero_add] at hc1
      have HI := Lib.hid hib
      have HRW := Lib.hid hrw
      clear hib hrw
      go_wp2_with (fail)
      refine (numberT x _).mono ?_
      rintro e w2 ⟨rfl, hB2⟩
      have HI2 := Lib.hid (isB_below HI.out hB2)
      have HB2 := Lib.hid (hB.trans (hB2.mono hbs))
      have HK2 := Lib.hid (hkp.trans (Keeps.of_below hB2))
      have HR2 := Lib.hid (HRW.out.keep (Keeps.of_below (b := b) hB2) hab)
      have hbs2 : B ≤ w2.heap.size := Nat.le_trans hbs hB2.size
      clear hB2 hB hkp HI HRW hbs hc1
      have hl1 : (l ++ layB (xs.take k)).length + (numStr x).size ≤ 140737488355328 := by
        have h1 := numStr_len x
        have h3 := layB_len (xs.take k)
        have h4 : (xs.take k).length ≤ k := by rw [List.length_take]; omega
        rw [List.length_append]
        omega
      have HN := Lib.hid hl1
      clear hl1
      unfold numV
      go_wp2_with (fail)
      refine (writeKeep_c B b _ _ w2 HI2.out HN.out hbs2).mono ?_
      rintro e w3 ⟨rfl, hib3, hB3, hk3⟩
      go_wp2_with (fail)
      go_roundw
      case rel =>
        refine ⟨k + 1, by omega, by go_num, ?_, HR2.out.keep hk3 hab, HB2.out.trans hB3, HK2.out.trans hk3, Nat.le_trans hbs2 hB3.size⟩
        rw [List.take_add_one, hx.out, Option.toList_some, layB_snoc, ← List.append_assoc]
        exact hib3
      case measure => simp [intOf] <;> omega
    · obtain rfl : k = n := by omega
      rw [List.take_of_length_le (by rw [HL.out]; exact Nat.le_refl _)] at hib
      go_wp2_with (fail)
      go_end0
      exact ⟨rfl, hib, hB, hkp⟩

set_option maxRecDepth 100000 in
set_option maxHeartbeats 2000000 in
theorem numbers_c (a n : Nat) (xs : List Int) (w : World) (hnx : xs.length = n) (hrow : RowAt w a xs) (hn : n ≤ 10) :
    Calls Try.prog 41 #[.slice (some ⟨a, 0, none⟩) n n] w fun e w' => e = .returned (.string ⟨(layB xs).toArray⟩) ∧ Below w.heap.size w w' := by
  have hrd := hrow.reads
  have HL := Lib.hid hnx
  rw [hnx] at hrd
  clear hnx hrow
  go_enter Try.func41, Try.ntmps41
  go_wp2_with (fail)
  go_loopw [3, 4] (fun o i wr => ∃ k : Nat, k ≤ n ∧ i = .int .i64 k ∧ o = .string ⟨(layB (xs.take k)).toArray⟩ ∧ Below w.heap.size w wr) (fun o i _ => n - (intOf i).toNat)
  case atStart => exact ⟨0, Nat.zero_le _, rfl, by simp [layB], Below.refl _ _⟩
  case round =>
    obtain ⟨k, hk, rfl, rfl, hB⟩ := hrel
    by_cases hlt : k < n
    · obtain ⟨a1, o1, x, he1, hx, hc1⟩ := (hrd.below hB).int_at hlt
      clear hrd
      injection he1 with he1
      injection he1 with he1 ho1 _
      subst he1 ho1
      rw [Nat.zero_add] at hc1
      go_wp2_with (fail)
      refine (refNumberT x _).mono ?_
      rintro e w2 ⟨rfl, hB2⟩
      have HB2 := Lib.hid (hB.trans (hB2.mono hB.size))
      clear hB2 hB hc1
      have hov : ¬ 9223372036854775807 < (layB (List.take k xs)).length + (numStr x).size := by
        have h1 := numStr_len x
        have h3 := layB_len (xs.take k)
        have h4 : (xs.take k).length ≤ k := by rw [List.length_take]; omega
        omega
      unfold numV
      go_wp2_with (fail)
      go_roundw
      case rel =>
        refine ⟨k + 1, by omega, by go_num, ?_, HB2.out⟩
        rw [List.take_add_one, hx.out, Option.toList_some, layB_snoc, cat_bytes]
      case measure => simp [intOf] <;> omega
    · obtain rfl : k = n := by omega
      rw [List.take_of_length_le (by rw [HL.out]; exact Nat.le_refl _)]
      clear hrd
      go_wp2_with (fail)
      go_ret
      exact ⟨rfl, hB⟩
end Go.Proofs.Ytmnjlhifjjainaa
