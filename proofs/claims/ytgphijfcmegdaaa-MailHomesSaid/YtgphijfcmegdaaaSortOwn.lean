/-
  slices.SortFunc on a row of messages of the call's own.
-/
import Derived.Test.YtgphijfcmegdaaaMailOrd
import Derived.Test.YtgphijfcmegdaaaSortMail
import Derived.Shelf.SlSortCmp.NoneTotal
namespace Go.Proofs.Ytgphijfcmegdaaa
open Go.RowKit Go.Shelf Go.Lib Go.Sort

instance : Inhabited Msg := ⟨⟨0, 0, 0, 0⟩⟩

theorem lt_cmpM (x y : Msg) : ltOf cmpM x y = decide (kless x y) := by
  unfold ltOf cmpM or3 compareInt kless
  rcases Int.lt_trichotomy x.slot y.slot with h | h | h
  · simp [h]
  · simp only [h, Int.lt_irrefl, if_false, true_and, false_or]
    rcases Int.lt_trichotomy x.dir y.dir with h2 | h2 | h2
    · simp [h2]
    · simp only [h2, Int.lt_irrefl, if_false, true_and, false_or]
      rcases Int.lt_trichotomy x.v y.v with h3 | h3 | h3
      · simp [h3]
      · simp [h3]
      · have : ¬ x.v < y.v := by omega
        simp [h3, this]
    · have a : ¬ x.dir < y.dir := by omega
      have b : ¬ x.dir = y.dir := by omega
      simp [h2, a, b]
  · have a : ¬ x.slot < y.slot := by omega
    have b : ¬ x.slot = y.slot := by omega
    simp [h, a, b]

theorem swo_cmpM : SWO (ltOf cmpM) where
  irrefl x := by rw [lt_cmpM]; simpa using kless_irrefl x
  trans x y z h1 h2 := by rw [lt_cmpM] at *; simp only [decide_eq_true_eq] at *; exact kless_trans h1 h2
  ntrans x y z h1 h2 := by rw [lt_cmpM] at *; simp only [decide_eq_false_iff_not] at *; unfold kless at *; omega

theorem flat_list (d : List Msg) : (flatK mc 4 d.toArray).toList = mv d := by
  apply List.ext_getElem?
  intro t
  by_cases ht : t < d.length * 4
  · have hq : t / 4 < d.length := by omega
    have h1 := flat_get mc 4 mc_len d (t / 4) (t % 4) d[t / 4] (List.getElem?_eq_getElem hq) (by omega)
    rw [show t / 4 * 4 + t % 4 = t by omega] at h1
    rw [show mv d = d.flatMap mc from rfl, h1, Array.getElem?_toList]
    have h2 : t % 4 < (mc d[t / 4]).length := by rw [mc_len]; omega
    simp [flatK, ht, hq, h2]
  · rw [List.getElem?_eq_none (by simp; omega), List.getElem?_eq_none (by rw [mv_len]; omega)]

theorem holdsK_block {w : World} {g n : Nat} {cur : Array Value} {e : TypeId} {d : List Msg} (hb : w.heap[g]? = some (.cells cur e (0, 0))) (hl : d.length = n) (ht : cur.toList.take (n * 4) = mv d) : HoldsK mc 4 w g 0 d.toArray := by
  intro j hj
  have hj' : j < n * 4 := by rw [size_flatK] at hj; simpa [hl] using hj
  refine ⟨?_, by simp [World.frozen?, hb]⟩
  have h1 : (cur.toList.take (n * 4))[j]? = (flatK mc 4 d.toArray).toList[j]? := by rw [ht, flat_list]
  rw [List.getElem?_take_of_lt hj'] at h1
  simp only [World.cell?, hb, Nat.zero_add]
  simp only [Option.isSome_none, Bool.false_eq_true, if_false]
  rw [← Array.getElem?_toList, h1, Array.getElem?_toList, Array.getElem?_eq_getElem hj, getElem!_pos _ j hj]
  rfl

theorem heap_sortedK {w : World} {g n : Nat} {os : Array Obj} {cur : Array Value} {e : TypeId} {fr : Nat × Nat} (d : Array Msg) (hb : w.heap[g]? = some (.cells cur e fr)) :
    (sortWorldK mc 4 w g 0 n d os).heap[g]? = some (.cells (putCells id 0 (flatK mc 4 d) cur) e fr) := by
  have hg : g < w.heap.size := (Array.getElem?_eq_some_iff.1 hb).1
  unfold sortWorldK putRowK
  rw [heap_grow_old _ _ (by simpa using hg)]
  simp [putRow, mapBlock, Sort.ahead, Array.getElem?_modify, hb, onCells]

theorem grownBy_sortedK {w : World} {g n : Nat} {os : Array Obj} (d : Array Msg) : w.grownBy (sortWorldK mc 4 w g 0 n d os) (some g) := by
  unfold sortWorldK putRowK
  refine ⟨rfl, rfl, rfl, by simp, fun k hk hne => ?_⟩
  rw [heap_grow_old _ _ (by simpa using hk)]
  have : g ≠ k := fun e => hne (by rw [e])
  simp [putRow, mapBlock, Sort.ahead, Array.getElem?_modify, this]

theorem take_putCellsK (cur : Array Value) (F : Array Value) (h : F.size ≤ cur.size) : (putCells id 0 F cur).toList.take F.size = F.toList := by
  apply List.ext_getElem?
  intro j
  by_cases hj : j < F.size
  · rw [List.getElem?_take_of_lt hj, Array.getElem?_toList, Array.getElem?_toList]
    simp [putCells, hj, show j < cur.size by omega]
  · rw [List.getElem?_take_eq_none (by omega), List.getElem?_eq_none (by simp; omega)]

theorem sort_c {w : World} {base n c : Nat} {A : Option Addr} {d : List Msg} (ho : w.ownsRow base 31 4 (.slice A n c) n (mv d)) (hlim : n ≤ 1000000000) :
    Calls Try.prog 35 #[.slice A n c, .func (.func 36) #[] #[]] w fun e w' => e = .returned (.tuple #[]) ∧
      ∃ d', d'.Perm d ∧ d'.Pairwise (fun a b => ¬ kless b a) ∧ w'.ownsRow base 31 4 (.slice A n c) n (mv d') ∧ w.grownBy w' (A.map (·.block)) := by
  have hl : d.length = n := by have := ho.1; rw [mv_len] at this; omega
  rcases Nat.eq_zero_or_pos n with rfl | hn
  · refine (AnyF.slices_SortFunc_none sortMail A c _ w).mono ?_
    rintro e w' ⟨rfl, rfl⟩
    have : d = [] := List.eq_nil_of_length_eq_zero hl
    subst this
    exact ⟨rfl, [], List.Perm.refl _, List.Pairwise.nil, ho, only_refl _ _⟩
  · obtain ⟨h0, ⟨hv, hz⟩ | ⟨g, cap, cur, hv, hbase, hb, h1, h2, h3, h4⟩⟩ := id ho
    · omega
    injection hv with e1 e2 e3
    subst e1
    subst e3
    have hH : HoldsK mc 4 w g 0 d.toArray := holdsK_block hb hl h4
    have hg : g < w.heap.size := (Array.getElem?_eq_some_iff.1 hb).1
    have eg : ∀ args w, (callFunc 36 args).run Try.prog w = .ok (.enter 36 args) w := enters_of Try.func36 (by kernel_rfl) rfl
    have hcmp : CmpLays Try.prog 36 #[] mc 4 cmpM g 0 d.toArray.size w := fun _ _ _ _ x y => order_c x y _
    have hcon := AnyQ.slices_SortFunc sortMail 4 Try.isAgg31 Try.sizeOf31 mc (fun _ => rfl) mc_one cmpM swo_cmpM 36 #[] g 0 c d.toArray w eg hcmp hH hg (by simp [hl]; omega)
    rw [show d.toArray.size = n by simpa using hl] at hcon
    refine hcon.mono ?_
    rintro e w' ⟨rfl, d', m, os, hp, hs, rfl⟩
    obtain ⟨p1, p2, p3⟩ := hp
    have hsz : d'.size = n := by rw [p1]; simpa using hl
    refine ⟨rfl, d'.toList, ?_, ?_, ?_, grownBy_sortedK _⟩
    · have e1 : d'.extract 0 n = d' := by rw [← hsz]; simp
      have e2 : d.toArray.extract 0 n = d.toArray := by rw [← hl]; simp
      rw [e1, e2] at p3
      simpa using p3
    · rw [List.pairwise_iff_getElem]
      intro i j hi hj hij
      have hi' : i < d'.size := by simpa using hi
      have hj' : j < d'.size := by simpa using hj
      have := hs i j (Nat.zero_le _) hij (by omega)
      rw [lt_cmpM] at this
      simp only [decide_eq_false_iff_not] at this
      rw [getElem!_pos d' i hi', getElem!_pos d' j hj'] at this
      simpa using this
    · have hF := flat_list d'.toList
      rw [Array.toArray_toList] at hF
      have hFs : (flatK mc 4 d').size = n * 4 := by rw [size_flatK, hsz]
      refine ⟨by rw [mv_len]; simp [hsz], .inr ⟨g, c, _, rfl, hbase, heap_sortedK d' hb, h1, h2, by simp [putCells, h3], ?_⟩⟩
      rw [← hFs, take_putCellsK _ _ (by rw [hFs, h3]; exact Nat.mul_le_mul_right _ h1), hF]
end Go.Proofs.Ytgphijfcmegdaaa
