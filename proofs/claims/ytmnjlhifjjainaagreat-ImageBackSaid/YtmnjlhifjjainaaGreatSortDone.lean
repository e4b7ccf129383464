/-
  slices.SortFunc on a row of edges, of texts, of the call's own.
-/
import Derived.Test.YtmnjlhifjjainaaGreatSortOrd
import Derived.Test.YtmnjlhifjjainaaGreatSortE
import Derived.Test.YtmnjlhifjjainaaGreatSortS
import Derived.Shelf.SlSortCmp.NoneTotal
namespace Go.Proofs.YtmnjlhifjjainaaGreat
open Go.RowKit Go.Shelf Go.Lib Go.Sort

instance : Inhabited Edg := ⟨⟨0, 0⟩⟩

theorem flat_list (d : List Edg) : (flatK ec 2 d.toArray).toList = ev d := by
  apply List.ext_getElem?
  intro t
  by_cases ht : t < d.length * 2
  · have hq : t / 2 < d.length := by omega
    have h1 := flat_get ec 2 ec_len d (t / 2) (t % 2) d[t / 2] (List.getElem?_eq_getElem hq) (by omega)
    rw [show t / 2 * 2 + t % 2 = t by omega] at h1
    rw [show ev d = d.flatMap ec from rfl, h1, Array.getElem?_toList]
    have h2 : t % 2 < (ec d[t / 2]).length := by rw [ec_len]; omega
    simp [flatK, ht, hq, h2]
  · rw [List.getElem?_eq_none (by simp; omega), List.getElem?_eq_none (by rw [ev_len]; omega)]

theorem holdsK_block {w : World} {g n : Nat} {cur : Array Value} {e : TypeId} {d : List Edg} (hb : w.heap[g]? = some (.cells cur e (0, 0))) (hl : d.length = n) (ht : cur.toList.take (n * 2) = ev d) : HoldsK ec 2 w g 0 d.toArray := by
  intro j hj
  have hj' : j < n * 2 := by rw [size_flatK] at hj; simpa [hl] using hj
  refine ⟨?_, by simp [World.frozen?, hb]⟩
  have h1 : (cur.toList.take (n * 2))[j]? = (flatK ec 2 d.toArray).toList[j]? := by rw [ht, flat_list]
  rw [List.getElem?_take_of_lt hj'] at h1
  simp only [World.cell?, hb, Nat.zero_add]
  simp only [Option.isSome_none, Bool.false_eq_true, if_false]
  rw [← Array.getElem?_toList, h1, Array.getElem?_toList, Array.getElem?_eq_getElem hj, getElem!_pos _ j hj]
  rfl

theorem heap_sortedK {w : World} {g n : Nat} {os : Array Obj} {cur : Array Value} {e : TypeId} {fr : Nat × Nat} (d : Array Edg) (hb : w.heap[g]? = some (.cells cur e fr)) :
    (sortWorldK ec 2 w g 0 n d os).heap[g]? = some (.cells (putCells id 0 (flatK ec 2 d) cur) e fr) := by
  have hg : g < w.heap.size := (Array.getElem?_eq_some_iff.1 hb).1
  unfold sortWorldK putRowK
  rw [heap_grow_old _ _ (by simpa using hg)]
  simp [putRow, mapBlock, Sort.ahead, Array.getElem?_modify, hb, onCells]

theorem grownBy_sortedK {w : World} {g n : Nat} {os : Array Obj} (d : Array Edg) : w.grownBy (sortWorldK ec 2 w g 0 n d os) (some g) := by
  unfold sortWorldK putRowK
  refine ⟨rfl, rfl, rfl, by simp, fun k hk hne => ?_⟩
  rw [heap_grow_old _ _ (by simpa using hk)]
  have : g ≠ k := fun e => hne (by rw [e])
  simp [putRow, mapBlock, Sort.ahead, Array.getElem?_modify, this]

theorem take_putCellsK (cur : Array Value) (F : Array Value) (h : F.size ≤ cur.size) : (putCells id 0 F cur).toList.take F.size = F.toList := by
  apply List.ext_getElem?
  intro j
  by_cases hj : j < F.size
  · rw [List.getElem?_take_of_lt hj, Array.getElem?_toList, Array.getElem?_toList]
    simp [putCells, hj, show j < cur.size by omega]
  · rw [List.getElem?_take_eq_none (by omega), List.getElem?_eq_none (by simp; omega)]

theorem sortE_c {w : World} {base n c : Nat} {A : Option Addr} {d : List Edg} (ho : w.ownsRow base 38 2 (.slice A n c) n (ev d)) (hlim : n ≤ 1000000000) :
    Calls Tryz.prog 34 #[.slice A n c, .func (.func 36) #[] #[]] w fun e w' => e = .returned (.tuple #[]) ∧
      ∃ d', d'.Perm d ∧ d'.Pairwise (fun a b => ¬ lessE b a) ∧ w'.ownsRow base 38 2 (.slice A n c) n (ev d') ∧ w.grownBy w' (A.map (·.block)) := by
  have hl : d.length = n := by have := ho.1; rw [ev_len] at this; omega
  rcases Nat.eq_zero_or_pos n with rfl | hn
  · refine (AnyF.slices_SortFunc_none sortEdge A c _ w).mono ?_
    rintro e w' ⟨rfl, rfl⟩
    have : d = [] := List.eq_nil_of_length_eq_zero hl
    subst this
    exact ⟨rfl, [], List.Perm.refl _, List.Pairwise.nil, ho, only_refl _ _⟩
  · obtain ⟨h0, ⟨hv, hz⟩ | ⟨g, cap, cur, hv, hbase, hb, h1, h2, h3, h4⟩⟩ := id ho
    · omega
    injection hv with e1 e2 e3
    subst e1
    subst e3
    have hH : HoldsK ec 2 w g 0 d.toArray := holdsK_block hb hl h4
    have hg : g < w.heap.size := (Array.getElem?_eq_some_iff.1 hb).1
    have eg : ∀ args w, (callFunc 36 args).run Tryz.prog w = .ok (.enter 36 args) w := enters_of Tryz.func36 (by kernel_rfl) rfl
    have hcmp : CmpLays Tryz.prog 36 #[] ec 2 cmpE g 0 d.toArray.size w := fun _ _ _ _ x y => ordE_grow x y _
    have hcon := AnyQ.slices_SortFunc sortEdge 2 Tryz.isAgg38 Tryz.sizeOf38 ec (fun _ => rfl) ec_one cmpE swo_cmpE 36 #[] g 0 c d.toArray w eg hcmp hH hg (by simp [hl]; omega)
    rw [show d.toArray.size = n by simpa using hl] at hcon
    refine hcon.mono ?_
    rintro e w' ⟨rfl, d', m, os, hp, hs, rfl⟩
    obtain ⟨p1, p2, p3⟩ := hp
    have hsz : d'.size = n := by rw [p1]; simpa using hl
    refine ⟨rfl, d'.toList, ?_, ?_, ?_, grownBy_sortedK _⟩
    · have e1 : d'.extract 0 n = d' := by rw [← hsz]; simp
      have e2 : d.toArray.extract 0 n = d.toArray := by rw [← hl]; simp
      rw [e1, e2] at p3
      simpa using p3
    · rw [List.pairwise_iff_getElem]
      intro i j hi hj hij
      have hi' : i < d'.size := by simpa using hi
      have hj' : j < d'.size := by simpa using hj
      have := hs i j (Nat.zero_le _) hij (by omega)
      rw [lt_cmpE] at this
      simp only [decide_eq_false_iff_not] at this
      rw [getElem!_pos d' i hi', getElem!_pos d' j hj'] at this
      simpa using this
    · have hF := flat_list d'.toList
      rw [Array.toArray_toList] at hF
      have hFs : (flatK ec 2 d').size = n * 2 := by rw [size_flatK, hsz]
      refine ⟨by rw [ev_len]; simp [hsz], .inr ⟨g, c, _, rfl, hbase, heap_sortedK d' hb, h1, h2, by simp [putCells, h3], ?_⟩⟩
      rw [← hFs, take_putCellsK _ _ (by rw [hFs, h3]; exact Nat.mul_le_mul_right _ h1), hF]

theorem holds_blockS {w : World} {g n : Nat} {cur : Array Value} {e : TypeId} {d : List ByteArray} (hb : w.heap[g]? = some (.cells cur e (0, 0))) (hl : d.length = n) (ht : cur.toList.take (n * 1) = sv d) : Holds Value.string w g 0 d.toArray := by
  intro j hj
  have hj' : j < n := by simpa [hl] using hj
  refine ⟨?_, by simp [World.frozen?, hb]⟩
  have h1 : (cur.toList.take (n * 1))[j]? = (sv d)[j]? := by rw [ht]
  rw [List.getElem?_take_of_lt (by omega)] at h1
  simp only [World.cell?, hb, Nat.zero_add]
  simp only [Option.isSome_none, Bool.false_eq_true, if_false]
  rw [← Array.getElem?_toList, h1, sv, List.getElem?_map]
  have hjd : j < d.length := by omega
  rw [List.getElem?_eq_getElem hjd, getElem!_pos d.toArray j hj]
  rfl

theorem heap_sortedS {w : World} {g n : Nat} {os : Array Obj} {cur : Array Value} {e : TypeId} {fr : Nat × Nat} (d : Array ByteArray) (hb : w.heap[g]? = some (.cells cur e fr)) :
    (sortWorld Value.string w g 0 n d os).heap[g]? = some (.cells (putCells Value.string 0 d cur) e fr) := by
  have hg : g < w.heap.size := (Array.getElem?_eq_some_iff.1 hb).1
  unfold sortWorld
  rw [heap_grow_old _ _ (by simpa using hg)]
  simp [putRow, mapBlock, Sort.ahead, Array.getElem?_modify, hb, onCells]

theorem grownBy_sortedS {w : World} {g n : Nat} {os : Array Obj} (d : Array ByteArray) : w.grownBy (sortWorld Value.string w g 0 n d os) (some g) := by
  unfold sortWorld
  refine ⟨rfl, rfl, rfl, by simp, fun k hk hne => ?_⟩
  rw [heap_grow_old _ _ (by simpa using hk)]
  have : g ≠ k := fun e => hne (by rw [e])
  simp [putRow, mapBlock, Sort.ahead, Array.getElem?_modify, this]

theorem take_putCellsS (cur : Array Value) (d : Array ByteArray) (h : d.size ≤ cur.size) : (putCells Value.string 0 d cur).toList.take d.size = sv d.toList := by
  apply List.ext_getElem?
  intro j
  by_cases hj : j < d.size
  · rw [List.getElem?_take_of_lt hj, Array.getElem?_toList, sv, List.getElem?_map, Array.getElem?_toList]
    simp [putCells, hj, show j < cur.size by omega]
  · rw [List.getElem?_take_eq_none (by omega), List.getElem?_eq_none (by simp [sv]; omega)]

theorem sortS_c {w : World} {base n c : Nat} {A : Option Addr} {d : List ByteArray} (ho : w.ownsRow base 9 1 (.slice A n c) n (sv d)) (hlim : n ≤ 1000000000) :
    Calls Tryz.prog 40 #[.slice A n c, .func (.func 42) #[] #[]] w fun e w' => e = .returned (.tuple #[]) ∧
      ∃ d', d'.Perm d ∧ d'.Pairwise (fun a b => ¬ ltW b a) ∧ w'.ownsRow base 9 1 (.slice A n c) n (sv d') ∧ w.grownBy w' (A.map (·.block)) := by
  have hl : d.length = n := by have := ho.1; simpa [sv] using this
  rcases Nat.eq_zero_or_pos n with rfl | hn
  · refine (AnyF.slices_SortFunc_none { sortText with } A c _ w).mono ?_
    rintro e w' ⟨rfl, rfl⟩
    have : d = [] := List.eq_nil_of_length_eq_zero hl
    subst this
    exact ⟨rfl, [], List.Perm.refl _, List.Pairwise.nil, ho, only_refl _ _⟩
  · obtain ⟨h0, ⟨hv, hz⟩ | ⟨g, cap, cur, hv, hbase, hb, h1, h2, h3, h4⟩⟩ := id ho
    · omega
    injection hv with e1 e2 e3
    subst e1
    subst e3
    have hH : Holds Value.string w g 0 d.toArray := holds_blockS hb hl h4
    have hg : g < w.heap.size := (Array.getElem?_eq_some_iff.1 hb).1
    have eg : ∀ args w, (callFunc 42 args).run Tryz.prog w = .ok (.enter 42 args) w := enters_of Tryz.func42 (by kernel_rfl) rfl
    have hcmp : CmpLays1 Tryz.prog 42 #[] Value.string cmpW g 0 d.toArray.size w := fun _ _ _ _ x y => ordW_grow x y _
    have hcon := Any.slices_SortFunc sortText Value.string (fun _ => rfl) cmpW swo_cmpW 42 #[] g 0 c d.toArray w eg hcmp hH hg (by simp [hl]; omega)
    rw [show d.toArray.size = n by simpa using hl] at hcon
    refine hcon.mono ?_
    rintro e w' ⟨rfl, d', m, os, hp, hs, rfl⟩
    obtain ⟨p1, p2, p3⟩ := hp
    have hsz : d'.size = n := by rw [p1]; simpa using hl
    refine ⟨rfl, d'.toList, ?_, ?_, ?_, grownBy_sortedS _⟩
    · have e1 : d'.extract 0 n = d' := by rw [← hsz]; simp
      have e2 : d.toArray.extract 0 n = d.toArray := by rw [← hl]; simp
      rw [e1, e2] at p3
      simpa using p3
    · rw [List.pairwise_iff_getElem]
      intro i j hi hj hij
      have hi' : i < d'.size := by simpa using hi
      have hj' : j < d'.size := by simpa using hj
      have := hs i j (Nat.zero_le _) hij (by omega)
      rw [lt_cmpW] at this
      simp only [decide_eq_false_iff_not] at this
      rw [getElem!_pos d' i hi', getElem!_pos d' j hj'] at this
      simpa using this
    · refine ⟨by simp [sv, hsz], .inr ⟨g, c, _, rfl, hbase, heap_sortedS d' hb, h1, h2, by simp [putCells, h3], ?_⟩⟩
      rw [Nat.mul_one, ← hsz, take_putCellsS _ _ (by rw [hsz, h3]; omega)]
end Go.Proofs.YtmnjlhifjjainaaGreat
