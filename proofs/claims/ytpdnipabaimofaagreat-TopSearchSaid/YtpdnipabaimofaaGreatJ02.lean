/-
  slices.SortFunc at messages: the kit's contract, laid at this program (written by the kit's lay-plain).
  slices.SortFunc on a row of messages of the call's own.
  slices.SortFunc at states: the kit's contract, laid at this program (written by the kit's lay-plain).
  The walks of Own and Same of messages (for a seat without turn).
  What may be, what stands ahead, whose home: the small functions.
  Plain laws of chapter 4: rows of places. No program in sight.
  The pairs of rows, in order: plain laws.
  Rows in memory.
-/
import Derived.Test.YtpdnipabaimofaaGreatProg
import Derived.Test.YtpdnipabaimofaaGreatJ01
import Derived.Shelf.SlSortCmp.WholeK
import Derived.Shelf.SlSortCmp.NoneTotal
namespace Go.Proofs.YtpdnipabaimofaaGreat
open Go.Shelf
def sortMail_ren : Go.Shelf.Ren := ⟨fun | 6 => 108 | 15 => 94 | 14 => 136 | 28 => 120 | 29 => 121 | 20 => 168 | 21 => 169 | 22 => 170 | 23 => 171 | 24 => 172 | 25 => 173 | 26 => 174 | 27 => 175 | 46 => 189 | 47 => 139 | 48 => 140 | 49 => 190 | 50 => 191 | 57 => 203 | n => n, fun | 22 => 57 | 24 => 79 | 25 => 174 | 3 => 3 | 39 => 147 | 0 => 0 | 53 => 185 | 55 => 187 | 4 => 4 | 46 => 179 | 45 => 178 | 50 => 54 | 5 => 5 | 9 => 9 | 66 => 207 | 70 => 211 | 76 => 239 | 77 => 240 | n => n, fun | n => n⟩
theorem sortMail : Go.Proofs.SlLaysF0.n6 Tryz.prog sortMail_ren := {
  mixed := by kernel_rfl
  f6 := ⟨Tryz.f108.name, by decide, Tryz.func108.trans (congrArg some (by kernel_rfl))⟩
  f14 := ⟨Tryz.f136.name, by decide, Tryz.func136.trans (congrArg some (by kernel_rfl))⟩
  f15 := Tryz.func94.trans (congrArg some (by kernel_rfl))
  f20 := ⟨Tryz.f168.name, by decide, Tryz.func168.trans (congrArg some (by kernel_rfl))⟩
  f21 := ⟨Tryz.f169.name, by decide, Tryz.func169.trans (congrArg some (by kernel_rfl))⟩
  f22 := ⟨Tryz.f170.name, by decide, Tryz.func170.trans (congrArg some (by kernel_rfl))⟩
  f23 := ⟨Tryz.f171.name, by decide, Tryz.func171.trans (congrArg some (by kernel_rfl))⟩
  f24 := ⟨Tryz.f172.name, by decide, Tryz.func172.trans (congrArg some (by kernel_rfl))⟩
  f25 := ⟨Tryz.f173.name, by decide, Tryz.func173.trans (congrArg some (by kernel_rfl))⟩
  f26 := ⟨Tryz.f174.name, by decide, Tryz.func174.trans (congrArg some (by kernel_rfl))⟩
  f27 := ⟨Tryz.f175.name, by decide, Tryz.func175.trans (congrArg some (by kernel_rfl))⟩
  f28 := Tryz.func120.trans (congrArg some (by kernel_rfl))
  f29 := Tryz.func121.trans (congrArg some (by kernel_rfl))
  f46 := ⟨Tryz.f189.name, by decide, Tryz.func189.trans (congrArg some (by kernel_rfl))⟩
  f47 := Tryz.func139.trans (congrArg some (by kernel_rfl))
  f48 := Tryz.func140.trans (congrArg some (by kernel_rfl))
  f49 := ⟨Tryz.f190.name, by decide, Tryz.func190.trans (congrArg some (by kernel_rfl))⟩
  f50 := ⟨Tryz.f191.name, by decide, Tryz.func191.trans (congrArg some (by kernel_rfl))⟩
  f57 := ⟨Tryz.f203.name, by decide, Tryz.func203.trans (congrArg some (by kernel_rfl))⟩
  t0 := Tryz.underlying0
  a0 := Tryz.isAgg0
  z0 := Tryz.sizeOf0
  v0 := Tryz.zeroValue0
  t3 := Tryz.underlying3
  a3 := Tryz.isAgg3
  z3 := Tryz.sizeOf3
  v3 := Tryz.zeroValue3
  t4 := Tryz.underlying4
  a4 := Tryz.isAgg4
  z4 := Tryz.sizeOf4
  v4 := Tryz.zeroValue4
  t5 := Tryz.underlying5
  a5 := Tryz.isAgg5
  z5 := Tryz.sizeOf5
  v5 := Tryz.zeroValue5
  t9 := Tryz.underlying9
  a9 := Tryz.isAgg9
  z9 := Tryz.sizeOf9
  v9 := Tryz.zeroValue9
  t22 := Tryz.underlying57
  a22 := Tryz.isAgg57
  z22 := Tryz.sizeOf57
  v22 := Tryz.zeroValue57
  t25 := Tryz.underlying174
  a25 := Tryz.isAgg174
  z25 := Tryz.sizeOf174
  v25 := Tryz.zeroValue174
  t39 := Tryz.underlying147
  a39 := Tryz.isAgg147
  z39 := Tryz.sizeOf147
  v39 := Tryz.zeroValue147
  t45 := Tryz.underlying178
  a45 := Tryz.isAgg178
  z45 := Tryz.sizeOf178
  v45 := Tryz.zeroValue178
  t46 := Tryz.underlying179
  a46 := Tryz.isAgg179
  z46 := Tryz.sizeOf179
  v46 := Tryz.zeroValue179
  t50 := Tryz.underlying54
  a50 := Tryz.isAgg54
  z50 := Tryz.sizeOf54
  v50 := Tryz.zeroValue54
  t53 := Tryz.underlying185
  a53 := Tryz.isAgg185
  z53 := Tryz.sizeOf185
  v53 := Tryz.zeroValue185
  t55 := Tryz.underlying187
  a55 := Tryz.isAgg187
  z55 := Tryz.sizeOf187
  v55 := Tryz.zeroValue187
  t66 := Tryz.underlying207
  a66 := Tryz.isAgg207
  z66 := Tryz.sizeOf207
  v66 := Tryz.zeroValue207
  t70 := Tryz.underlying211
  a70 := Tryz.isAgg211
  z70 := Tryz.sizeOf211
  v70 := Tryz.zeroValue211
  t76 := Tryz.underlying239
  a76 := Tryz.isAgg239
  z76 := Tryz.sizeOf239
  v76 := Tryz.zeroValue239
  t77 := Tryz.underlying240
  a77 := Tryz.isAgg240
  z77 := Tryz.sizeOf240
  v77 := Tryz.zeroValue240 }
end Go.Proofs.YtpdnipabaimofaaGreat

namespace Go.Proofs.YtpdnipabaimofaaGreat
open Go.RowKit Go.Shelf Go.Lib Go.Sort

instance : Inhabited Msg := ⟨⟨0, 0, 0, 0⟩⟩

theorem lt_cmpM (x y : Msg) : ltOf cmpM x y = decide (kless x y) := by
  unfold ltOf cmpM or3 compareInt kless
  rcases Int.lt_trichotomy x.slot y.slot with h | h | h
  · simp [h]
  · simp only [h, Int.lt_irrefl, if_false, true_and, false_or]
    rcases Int.lt_trichotomy x.dir y.dir with h2 | h2 | h2
    · simp [h2]
    · simp only [h2, Int.lt_irrefl, if_false, true_and, false_or]
      rcases Int.lt_trichotomy x.v y.v with h3 | h3 | h3
      · simp [h3]
      · simp [h3]
      · have : ¬ x.v < y.v := by omega
        simp [h3, this]
    · have a : ¬ x.dir < y.dir := by omega
      have b : ¬ x.dir = y.dir := by omega
      simp [h2, a, b]
  · have a : ¬ x.slot < y.slot := by omega
    have b : ¬ x.slot = y.slot := by omega
    simp [h, a, b]

theorem swo_cmpM : SWO (ltOf cmpM) where
  irrefl x := by rw [lt_cmpM]; simpa using kless_irrefl x
  trans x y z h1 h2 := by rw [lt_cmpM] at *; simp only [decide_eq_true_eq] at *; exact kless_trans h1 h2
  ntrans x y z h1 h2 := by rw [lt_cmpM] at *; simp only [decide_eq_false_iff_not] at *; unfold kless at *; omega

theorem flat_list (d : List Msg) : (flatK mc 4 d.toArray).toList = mv d := by
  apply List.ext_getElem?
  intro t
  by_cases ht : t < d.length * 4
  · have hq : t / 4 < d.length := by omega
    have h1 := flat_get mc 4 mc_len d (t / 4) (t % 4) d[t / 4] (List.getElem?_eq_getElem hq) (by omega)
    rw [show t / 4 * 4 + t % 4 = t by omega] at h1
    rw [show mv d = d.flatMap mc from rfl, h1, Array.getElem?_toList]
    have h2 : t % 4 < (mc d[t / 4]).length := by rw [mc_len]; omega
    simp [flatK, ht, hq, h2]
  · rw [List.getElem?_eq_none (by simp; omega), List.getElem?_eq_none (by rw [mv_len]; omega)]

theorem holdsK_block {w : World} {g n : Nat} {cur : Array Value} {e : TypeId} {d : List Msg} (hb : w.heap[g]? = some (.cells cur e (0, 0))) (hl : d.length = n) (ht : cur.toList.take (n * 4) = mv d) : HoldsK mc 4 w g 0 d.toArray := by
  intro j hj
  have hj' : j < n * 4 := by rw [size_flatK] at hj; simpa [hl] using hj
  refine ⟨?_, by simp [World.frozen?, hb]⟩
  have h1 : (cur.toList.take (n * 4))[j]? = (flatK mc 4 d.toArray).toList[j]? := by rw [ht, flat_list]
  rw [List.getElem?_take_of_lt hj'] at h1
  simp only [World.cell?, hb, Nat.zero_add]
  simp only [Option.isSome_none, Bool.false_eq_true, if_false]
  rw [← Array.getElem?_toList, h1, Array.getElem?_toList, Array.getElem?_eq_getElem hj, getElem!_pos _ j hj]
  rfl

theorem heap_sortedK {w : World} {g n : Nat} {os : Array Obj} {cur : Array Value} {e : TypeId} {fr : Nat × Nat} (d : Array Msg) (hb : w.heap[g]? = some (.cells cur e fr)) :
    (sortWorldK mc 4 w g 0 n d os).heap[g]? = some (.cells (putCells id 0 (flatK mc 4 d) cur) e fr) := by
  have hg : g < w.heap.size := (Array.getElem?_eq_some_iff.1 hb).1
  unfold sortWorldK putRowK
  rw [heap_grow_old _ _ (by simpa using hg)]
  simp [putRow, mapBlock, Sort.ahead, Array.getElem?_modify, hb, onCells]

theorem grownBy_sortedK {w : World} {g n : Nat} {os : Array Obj} (d : Array Msg) : w.grownBy (sortWorldK mc 4 w g 0 n d os) (some g) := by
  unfold sortWorldK putRowK
  refine ⟨rfl, rfl, rfl, by simp, fun k hk hne => ?_⟩
  rw [heap_grow_old _ _ (by simpa using hk)]
  have : g ≠ k := fun e => hne (by rw [e])
  simp [putRow, mapBlock, Sort.ahead, Array.getElem?_modify, this]

theorem take_putCellsK (cur : Array Value) (F : Array Value) (h : F.size ≤ cur.size) : (putCells id 0 F cur).toList.take F.size = F.toList := by
  apply List.ext_getElem?
  intro j
  by_cases hj : j < F.size
  · rw [List.getElem?_take_of_lt hj, Array.getElem?_toList, Array.getElem?_toList]
    simp [putCells, hj, show j < cur.size by omega]
  · rw [List.getElem?_take_eq_none (by omega), List.getElem?_eq_none (by simp; omega)]

theorem sort_c {w : World} {base n c : Nat} {A : Option Addr} {d : List Msg} (ho : w.ownsRow base 79 4 (.slice A n c) n (mv d)) (hlim : n ≤ 1000000000) :
    Calls Tryz.prog 108 #[.slice A n c, .func (.func 109) #[] #[]] w fun e w' => e = .returned (.tuple #[]) ∧
      ∃ d', d'.Perm d ∧ d'.Pairwise (fun a b => ¬ kless b a) ∧ w'.ownsRow base 79 4 (.slice A n c) n (mv d') ∧ w.grownBy w' (A.map (·.block)) := by
  have hl : d.length = n := by have := ho.1; rw [mv_len] at this; omega
  rcases Nat.eq_zero_or_pos n with rfl | hn
  · refine (AnyF.slices_SortFunc_none sortMail A c _ w).mono ?_
    rintro e w' ⟨rfl, rfl⟩
    have : d = [] := List.eq_nil_of_length_eq_zero hl
    subst this
    exact ⟨rfl, [], List.Perm.refl _, List.Pairwise.nil, ho, only_refl _ _⟩
  · obtain ⟨h0, ⟨hv, hz⟩ | ⟨g, cap, cur, hv, hbase, hb, h1, h2, h3, h4⟩⟩ := id ho
    · omega
    injection hv with e1 e2 e3
    subst e1
    subst e3
    have hH : HoldsK mc 4 w g 0 d.toArray := holdsK_block hb hl h4
    have hg : g < w.heap.size := (Array.getElem?_eq_some_iff.1 hb).1
    have eg : ∀ args w, (callFunc 109 args).run Tryz.prog w = .ok (.enter 109 args) w := enters_of Tryz.func109 (by kernel_rfl) rfl
    have hcmp : CmpLays Tryz.prog 109 #[] mc 4 cmpM g 0 d.toArray.size w := fun _ _ _ _ x y => order_c x y _
    have hcon := AnyQ.slices_SortFunc sortMail 4 Tryz.isAgg79 Tryz.sizeOf79 mc (fun _ => rfl) mc_one cmpM swo_cmpM 109 #[] g 0 c d.toArray w eg hcmp hH hg (by simp [hl]; omega)
    rw [show d.toArray.size = n by simpa using hl] at hcon
    refine hcon.mono ?_
    rintro e w' ⟨rfl, d', m, os, hp, hs, rfl⟩
    obtain ⟨p1, p2, p3⟩ := hp
    have hsz : d'.size = n := by rw [p1]; simpa using hl
    refine ⟨rfl, d'.toList, ?_, ?_, ?_, grownBy_sortedK _⟩
    · have e1 : d'.extract 0 n = d' := by rw [← hsz]; simp
      have e2 : d.toArray.extract 0 n = d.toArray := by rw [← hl]; simp
      rw [e1, e2] at p3
      simpa using p3
    · rw [List.pairwise_iff_getElem]
      intro i j hi hj hij
      have hi' : i < d'.size := by simpa using hi
      have hj' : j < d'.size := by simpa using hj
      have := hs i j (Nat.zero_le _) hij (by omega)
      rw [lt_cmpM] at this
      simp only [decide_eq_false_iff_not] at this
      rw [getElem!_pos d' i hi', getElem!_pos d' j hj'] at this
      simpa using this
    · have hF := flat_list d'.toList
      rw [Array.toArray_toList] at hF
      have hFs : (flatK mc 4 d').size = n * 4 := by rw [size_flatK, hsz]
      refine ⟨by rw [mv_len]; simp [hsz], .inr ⟨g, c, _, rfl, hbase, heap_sortedK d' hb, h1, h2, by simp [putCells, h3], ?_⟩⟩
      rw [← hFs, take_putCellsK _ _ (by rw [hFs, h3]; exact Nat.mul_le_mul_right _ h1), hF]
end Go.Proofs.YtpdnipabaimofaaGreat

namespace Go.Proofs.YtpdnipabaimofaaGreat
open Go.Shelf
def sortSt_ren : Go.Shelf.Ren := ⟨fun | 6 => 57 | 15 => 94 | 14 => 93 | 28 => 120 | 29 => 121 | 20 => 112 | 21 => 113 | 22 => 114 | 23 => 115 | 24 => 116 | 25 => 117 | 26 => 118 | 27 => 119 | 46 => 138 | 47 => 139 | 48 => 140 | 49 => 141 | 50 => 142 | 57 => 176 | n => n, fun | 22 => 59 | 24 => 121 | 25 => 131 | 3 => 3 | 39 => 147 | 0 => 0 | 53 => 185 | 55 => 187 | 4 => 4 | 46 => 179 | 45 => 178 | 50 => 54 | 5 => 5 | 9 => 9 | 66 => 207 | 70 => 211 | 76 => 239 | 77 => 240 | n => n, fun | n => n⟩
theorem sortSt : Go.Proofs.SlLaysF0.n6 Tryz.prog sortSt_ren := {
  mixed := by kernel_rfl
  f6 := ⟨Tryz.f57.name, by decide, Tryz.func57.trans (congrArg some (by kernel_rfl))⟩
  f14 := ⟨Tryz.f93.name, by decide, Tryz.func93.trans (congrArg some (by kernel_rfl))⟩
  f15 := Tryz.func94.trans (congrArg some (by kernel_rfl))
  f20 := ⟨Tryz.f112.name, by decide, Tryz.func112.trans (congrArg some (by kernel_rfl))⟩
  f21 := ⟨Tryz.f113.name, by decide, Tryz.func113.trans (congrArg some (by kernel_rfl))⟩
  f22 := ⟨Tryz.f114.name, by decide, Tryz.func114.trans (congrArg some (by kernel_rfl))⟩
  f23 := ⟨Tryz.f115.name, by decide, Tryz.func115.trans (congrArg some (by kernel_rfl))⟩
  f24 := ⟨Tryz.f116.name, by decide, Tryz.func116.trans (congrArg some (by kernel_rfl))⟩
  f25 := ⟨Tryz.f117.name, by decide, Tryz.func117.trans (congrArg some (by kernel_rfl))⟩
  f26 := ⟨Tryz.f118.name, by decide, Tryz.func118.trans (congrArg some (by kernel_rfl))⟩
  f27 := ⟨Tryz.f119.name, by decide, Tryz.func119.trans (congrArg some (by kernel_rfl))⟩
  f28 := Tryz.func120.trans (congrArg some (by kernel_rfl))
  f29 := Tryz.func121.trans (congrArg some (by kernel_rfl))
  f46 := ⟨Tryz.f138.name, by decide, Tryz.func138.trans (congrArg some (by kernel_rfl))⟩
  f47 := Tryz.func139.trans (congrArg some (by kernel_rfl))
  f48 := Tryz.func140.trans (congrArg some (by kernel_rfl))
  f49 := ⟨Tryz.f141.name, by decide, Tryz.func141.trans (congrArg some (by kernel_rfl))⟩
  f50 := ⟨Tryz.f142.name, by decide, Tryz.func142.trans (congrArg some (by kernel_rfl))⟩
  f57 := ⟨Tryz.f176.name, by decide, Tryz.func176.trans (congrArg some (by kernel_rfl))⟩
  t0 := Tryz.underlying0
  a0 := Tryz.isAgg0
  z0 := Tryz.sizeOf0
  v0 := Tryz.zeroValue0
  t3 := Tryz.underlying3
  a3 := Tryz.isAgg3
  z3 := Tryz.sizeOf3
  v3 := Tryz.zeroValue3
  t4 := Tryz.underlying4
  a4 := Tryz.isAgg4
  z4 := Tryz.sizeOf4
  v4 := Tryz.zeroValue4
  t5 := Tryz.underlying5
  a5 := Tryz.isAgg5
  z5 := Tryz.sizeOf5
  v5 := Tryz.zeroValue5
  t9 := Tryz.underlying9
  a9 := Tryz.isAgg9
  z9 := Tryz.sizeOf9
  v9 := Tryz.zeroValue9
  t22 := Tryz.underlying59
  a22 := Tryz.isAgg59
  z22 := Tryz.sizeOf59
  v22 := Tryz.zeroValue59
  t25 := Tryz.underlying131
  a25 := Tryz.isAgg131
  z25 := Tryz.sizeOf131
  v25 := Tryz.zeroValue131
  t39 := Tryz.underlying147
  a39 := Tryz.isAgg147
  z39 := Tryz.sizeOf147
  v39 := Tryz.zeroValue147
  t45 := Tryz.underlying178
  a45 := Tryz.isAgg178
  z45 := Tryz.sizeOf178
  v45 := Tryz.zeroValue178
  t46 := Tryz.underlying179
  a46 := Tryz.isAgg179
  z46 := Tryz.sizeOf179
  v46 := Tryz.zeroValue179
  t50 := Tryz.underlying54
  a50 := Tryz.isAgg54
  z50 := Tryz.sizeOf54
  v50 := Tryz.zeroValue54
  t53 := Tryz.underlying185
  a53 := Tryz.isAgg185
  z53 := Tryz.sizeOf185
  v53 := Tryz.zeroValue185
  t55 := Tryz.underlying187
  a55 := Tryz.isAgg187
  z55 := Tryz.sizeOf187
  v55 := Tryz.zeroValue187
  t66 := Tryz.underlying207
  a66 := Tryz.isAgg207
  z66 := Tryz.sizeOf207
  v66 := Tryz.zeroValue207
  t70 := Tryz.underlying211
  a70 := Tryz.isAgg211
  z70 := Tryz.sizeOf211
  v70 := Tryz.zeroValue211
  t76 := Tryz.underlying239
  a76 := Tryz.isAgg239
  z76 := Tryz.sizeOf239
  v76 := Tryz.zeroValue239
  t77 := Tryz.underlying240
  a77 := Tryz.isAgg240
  z77 := Tryz.sizeOf240
  v77 := Tryz.zeroValue240 }
end Go.Proofs.YtpdnipabaimofaaGreat

namespace Go.Proofs.YtpdnipabaimofaaGreat
open Go.RowKit

def mval (m : Msg) : Value := .agg #[.int .i64 m.slot, .int .i64 m.dir, .int .i64 m.v, .int .i64 m.d]

theorem run_neq_mail (x y : Msg) (h : x ≠ y) (w : World) :
    (binOp .neq 79 (.agg #[.int .i64 x.slot, .int .i64 x.dir, .int .i64 x.v, .int .i64 x.d]) (.agg #[.int .i64 y.slot, .int .i64 y.dir, .int .i64 y.v, .int .i64 y.d])).run Tryz.prog w = .ok (.bool true) w := by
  have h' : ¬ (x.slot = y.slot ∧ x.dir = y.dir ∧ x.v = y.v ∧ x.d = y.d) := fun e => h ((Msg.eq_iff _ _).2 e)
  have H := Lib.hid h'
  clear h h'
  go_simp
  by_cases e1 : x.slot = y.slot
  · by_cases e2 : x.dir = y.dir
    · by_cases e3 : x.v = y.v
      · by_cases e4 : x.d = y.d
        · exact absurd ⟨e1, e2, e3, e4⟩ H.out
        · simp [e1, e2, e3, e4]
      · simp [e1, e2, e3]
    · simp [e1, e2]
  · simp [e1]

theorem run_eql_mail (x y : Msg) (h : x ≠ y) (w : World) :
    (binOp .eql 79 (.agg #[.int .i64 x.slot, .int .i64 x.dir, .int .i64 x.v, .int .i64 x.d]) (.agg #[.int .i64 y.slot, .int .i64 y.dir, .int .i64 y.v, .int .i64 y.d])).run Tryz.prog w = .ok (.bool false) w := by
  have h' : ¬ (x.slot = y.slot ∧ x.dir = y.dir ∧ x.v = y.v ∧ x.d = y.d) := fun e => h ((Msg.eq_iff _ _).2 e)
  have H := Lib.hid h'
  clear h h'
  go_simp
  by_cases e1 : x.slot = y.slot
  · by_cases e2 : x.dir = y.dir
    · by_cases e3 : x.v = y.v
      · by_cases e4 : x.d = y.d
        · exact absurd ⟨e1, e2, e3, e4⟩ H.out
        · simp [e1, e2, e3, e4]
      · simp [e1, e2, e3]
    · simp [e1, e2]
  · simp [e1]

end Go.Proofs.YtpdnipabaimofaaGreat

namespace Go.Proofs.YtpdnipabaimofaaGreat
open Go.RowKit

def mayK (m : Msg) : Prop := (0 ≤ m.slot ∧ m.slot ≤ 1000) ∧ (m.dir = 0 ∨ m.dir = 1) ∧ (0 ≤ m.v ∧ m.v < 200)
instance (m : Msg) : Decidable (mayK m) := by unfold mayK; infer_instance
def mayM (m : Msg) : Prop := mayK m ∧ (0 ≤ m.d ∧ m.d ≤ 200)
instance (m : Msg) : Decidable (mayM m) := by unfold mayM; infer_instance
def allMay (l : List Msg) : Prop := ∀ m ∈ l, mayM m
instance (l : List Msg) : Decidable (allMay l) := by unfold allMay; infer_instance

theorem below_two (w : World) (o1 o2 : Obj) : Below w.heap.size w ((w.alloc o1).alloc o2) := ((Below.refl _ _).alloc (Nat.le_refl _) _).alloc (by simp) _
theorem below_one (w : World) (o1 : Obj) : Below w.heap.size w (w.alloc o1) := (Below.refl _ _).alloc (Nat.le_refl _) _

set_option maxHeartbeats 2000000 in
theorem may_c (x : Msg) (w : World) : Calls Tryz.prog 88 #[.agg #[.int .i64 x.slot, .int .i64 x.dir, .int .i64 x.v, .int .i64 x.d]] w fun e w' => e = .returned (.bool (decide (mayM x))) ∧ Below w.heap.size w w' := by
  go_enter Tryz.func88, Tryz.ntmps88
  go_wp2
  all_goals go_ret
  all_goals refine ⟨ret_bool ?_, below_two _ _ _⟩
  all_goals unfold mayM mayK
  all_goals first | (refine Eq.symm (decide_eq_true ?_); omega) | (refine Eq.symm (decide_eq_false ?_); omega) | (refine decide_eq_decide.2 ?_; omega) | trace_state

theorem check_c (A : Option Addr) (n c : Nat) (xs : List Msg) (w : World) (h1 : Reads w w.heap.size 4 A n (mv xs)) (hn1 : n ≤ maxLen) :
    Calls Tryz.prog 52 #[.slice A n c] w fun e w' => e = .returned (.bool (decide (allMay xs))) ∧ Below w.heap.size w w' := by
  have l1 := h1.mail_len
  unfold maxLen at hn1
  go_enter Tryz.func52, Tryz.ntmps52
  go_wp2_with (fail)
  go_loopw [7] (fun i wr => ∃ k : Nat, k ≤ n ∧ i = .int .i64 k ∧ Hid (allMay (xs.take k)) ∧ Below w.heap.size w wr) (fun i _ => n - (intOf i).toNat)
  case atStart => exact ⟨0, Nat.zero_le _, rfl, fun m hm => by simp at hm, Below.refl _ _⟩
  case round =>
    obtain ⟨k, hk, rfl, ht, hB⟩ := hrel
    by_cases hlt : k < n
    · obtain ⟨a1, o1, x, rfl, hx, hc10, hc11, hc12, hc13⟩ := (h1.below hB).mail_at hlt
      clear h1
      have L1 := Lib.hid l1
      clear l1
      go_wp2_with (fail)
      refine (may_c x _).mono ?_
      rintro e w3 ⟨rfl, hB3⟩
      have hBB := (hB.alloc hB.size _).trans (hB3.mono (by simp; have := hB.size; omega))
      clear hB3
      by_cases hm : mayM x
      · have hd : decide (mayM x) = true := decide_eq_true hm
        rw [hd]
        have HM := Lib.hid hm
        clear hm hd
        go_wp2_with (fail)
        go_roundw
        case rel =>
          refine ⟨k + 1, by omega, by go_num, fun m hm => ?_, hBB⟩
          rw [List.take_add_one, hx.out] at hm
          rcases List.mem_append.1 hm with h | h
          · exact ht.out m h
          · simp at h; subst h; exact HM.out
        case measure => simp [intOf]; omega
      · have hd : decide (mayM x) = false := decide_eq_false hm
        rw [hd]
        have HM := Lib.hid hm
        clear hm hd
        go_wp2_with (fail)
        go_ret
        exact ⟨ret_bool (decide_eq_false fun h => HM.out (h x (List.mem_of_getElem? hx.out))).symm, hBB⟩
    · obtain rfl : n = k := by omega
      have hf : Hid (allMay xs) := by
        have := ht.out
        rw [List.take_of_length_le (by omega)] at this
        exact this
      clear l1
      go_wp2_with (fail)
      go_ret
      exact ⟨ret_bool (decide_eq_true hf.out).symm, hB⟩

/-- Whose home a place is. -/
def homeOk (v k : Int) : Prop := (0 ≤ v ∧ v ≤ 1000000) ∧ (1 ≤ k ∧ k ≤ 16)
instance (v k : Int) : Decidable (homeOk v k) := by unfold homeOk; infer_instance
def homeI (v k : Int) : Int := if homeOk v k then (v * 40503 + 12345) % 65536 % k else 0

theorem home_no (v k : Int) (w : World) (h : ¬ homeOk v k) : Calls Tryz.prog 11 #[.int .i64 v, .int .i64 k] w fun e w' => e = .returned (.tuple #[.int .i64 (homeI v k), .bool (decide (homeOk v k))]) ∧ Below w.heap.size w w' := by
  have e1 : homeI v k = 0 := by unfold homeI; rw [if_neg h]
  have e2 : decide (homeOk v k) = false := decide_eq_false h
  rw [e1, e2]
  have h' : v < 0 ∨ 1000000 < v ∨ k < 1 ∨ 16 < k := by unfold homeOk at h; omega
  clear h e1 e2
  go_enter Tryz.func11, Tryz.ntmps11
  go_wp2_with (fail)
  all_goals go_ret2
  all_goals exact ⟨rfl, Below.refl _ _⟩
theorem home_yes (v k : Int) (w : World) (h : homeOk v k) : Calls Tryz.prog 11 #[.int .i64 v, .int .i64 k] w fun e w' => e = .returned (.tuple #[.int .i64 (homeI v k), .bool (decide (homeOk v k))]) ∧ Below w.heap.size w w' := by
  have e1 : Hid (homeI v k = (v * 40503 + 12345) % 65536 % k) := by show _ = _; unfold homeI; rw [if_pos h]
  have e2 : decide (homeOk v k) = true := decide_eq_true h
  rw [e2]
  obtain ⟨⟨h1, h2⟩, h3, h4⟩ := h
  clear e2
  go_enter Tryz.func11, Tryz.ntmps11
  go_wp2_with (fail)
  go_ret2
  exact ⟨by rw [e1.out]; rfl, Below.refl _ _⟩
theorem home_c (v k : Int) (w : World) : Calls Tryz.prog 11 #[.int .i64 v, .int .i64 k] w fun e w' => e = .returned (.tuple #[.int .i64 (homeI v k), .bool (decide (homeOk v k))]) ∧ Below w.heap.size w w' := by
  by_cases h : homeOk v k
  · exact home_yes v k w h
  · exact home_no v k w h
end Go.Proofs.YtpdnipabaimofaaGreat

namespace Go.Proofs.YtpdnipabaimofaaGreat

/-- Rows: offsets and numbers, of what a place leads to and of what leads to it. -/
structure Rws where
  off : List Int
  to : List Int
  roff : List Int
  rev : List Int
deriving DecidableEq
/-- The number of places. -/
def Rws.n (r : Rws) : Nat := r.off.length - 1
/-- A number of a row, 0 beyond it. -/
def nth (l : List Int) (v : Nat) : Int := l.getD v 0
theorem nth_is {l : List Int} {v : Nat} {x : Int} (h : l[v]? = some x) : nth l v = x := by unfold nth; rw [List.getD_eq_getElem?_getD, h]; rfl
theorem nth_some {l : List Int} {v : Nat} (h : v < l.length) : l[v]? = some (nth l v) := by
  unfold nth
  rw [List.getD_eq_getElem?_getD, List.getElem?_eq_getElem h]
  rfl
/-- A part of a row. -/
def cutI (l : List Int) (a b : Int) : List Int := (l.take b.toNat).drop a.toNat
/-- What a place's row holds. -/
def rowR (off to : List Int) (v : Nat) : List Int := cutI to (nth off v) (nth off (v + 1))
def incr : List Int → Prop
  | [] => True
  | [_] => True
  | x :: y :: r => x < y ∧ incr (y :: r)
instance decIncr : (l : List Int) → Decidable (incr l)
  | [] => isTrue trivial
  | [_] => isTrue trivial
  | x :: y :: r => by unfold incr; exact @instDecidableAnd _ _ inferInstance (decIncr (y :: r))
/-- Offsets never fall. -/
def climbs (off : List Int) : Prop := ∀ v, v + 1 < off.length → nth off v ≤ nth off (v + 1)
instance (off : List Int) : Decidable (climbs off) := decidable_of_iff (∀ v ∈ List.range off.length, v + 1 < off.length → nth off v ≤ nth off (v + 1))
  ⟨fun h v hv => h v (List.mem_range.2 (by omega)) hv, fun h v _ hv => h v hv⟩
/-- A place's row is right. -/
def goodRowI (n : Nat) (l : List Int) : Prop := (∀ w ∈ l, 0 ≤ w ∧ w < (n : Int)) ∧ incr l
instance (n : Nat) (l : List Int) : Decidable (goodRowI n l) := by unfold goodRowI; infer_instance
/-- Offsets and numbers are of the right size. -/
def shapeR (off to : List Int) : Prop := (2 ≤ off.length ∧ off.length ≤ 201) ∧ to.length ≤ 2000 ∧ nth off 0 = 0 ∧ nth off (off.length - 1) = (to.length : Int) ∧ climbs off
instance (off to : List Int) : Decidable (shapeR off to) := by unfold shapeR; infer_instance
def halfR (off to : List Int) : Prop := shapeR off to ∧ ∀ v ∈ List.range (off.length - 1), goodRowI (off.length - 1) (rowR off to v)
instance (off to : List Int) : Decidable (halfR off to) := by unfold halfR; infer_instance
/-- Rows are right. -/
def chkR (r : Rws) : Prop := r.off.length = r.roff.length ∧ r.to.length = r.rev.length ∧ halfR r.off r.to ∧ halfR r.roff r.rev ∧ ∀ v ∈ List.range r.n, ∀ w ∈ rowR r.off r.to v, (v : Int) ∈ rowR r.roff r.rev w.toNat
instance (r : Rws) : Decidable (chkR r) := by unfold chkR; infer_instance

section
variable {off to : List Int}
theorem climbs_le (h : climbs off) : ∀ {a b : Nat}, a ≤ b → b < off.length → nth off a ≤ nth off b := by
  intro a b hab
  induction b with
  | zero => intro _; have : a = 0 := by omega
            rw [this]; exact Int.le_refl _
  | succ b ih =>
    intro hb
    by_cases e : a = b + 1
    · rw [e]; exact Int.le_refl _
    · have h1 := ih (by omega) (by omega)
      have h2 := h b hb
      omega
/-- Where a place's row lies. -/
theorem row_bounds (h : shapeR off to) {v : Nat} (hv : v < off.length - 1) : 0 ≤ nth off v ∧ nth off v ≤ nth off (v + 1) ∧ nth off (v + 1) ≤ (to.length : Int) := by
  obtain ⟨_, _, h0, h1, hc⟩ := h
  have a := climbs_le hc (a := 0) (b := v) (by omega) (by omega)
  have b := hc v (by omega)
  have c := climbs_le hc (a := v + 1) (b := off.length - 1) (by omega) (by omega)
  omega
theorem cutI_len {l : List Int} {a b : Int} (h0 : 0 ≤ a) (h1 : a ≤ b) (h2 : b ≤ (l.length : Int)) : ((cutI l a b).length : Int) = b - a := by
  unfold cutI
  rw [List.length_drop, List.length_take]
  omega
theorem cutI_get {l : List Int} {a b : Int} (h0 : 0 ≤ a) (_ : b ≤ (l.length : Int)) {i : Nat} (hi : a + i < b) : (cutI l a b)[i]? = l[a.toNat + i]? := by
  unfold cutI
  rw [List.getElem?_drop, List.getElem?_take_of_lt (by omega)]
theorem row_len (h : shapeR off to) {v : Nat} (hv : v < off.length - 1) : ((rowR off to v).length : Int) = nth off (v + 1) - nth off v := by
  obtain ⟨a, b, c⟩ := row_bounds h hv
  exact cutI_len a b c
theorem row_len_le (off to : List Int) (v : Nat) : (rowR off to v).length ≤ to.length := by
  unfold rowR cutI
  rw [List.length_drop, List.length_take]
  omega
end
theorem incr_pair : ∀ {l : List Int} {i : Nat} {x y : Int}, incr l → l[i]? = some x → l[i + 1]? = some y → x < y
  | [], _, _, _, _, h, _ => by simp at h
  | [_], _, _, _, _, _, h => by simp at h
  | a :: b :: r, 0, x, y, h, hx, hy => by
    simp at hx hy
    obtain ⟨h1, _⟩ := h
    omega
  | a :: b :: r, i + 1, x, y, h, hx, hy => by
    simp only [List.getElem?_cons_succ] at hx hy
    exact incr_pair h.2 hx hy
theorem incr_of : ∀ {l : List Int}, (∀ (i : Nat) (x y : Int), l[i]? = some x → l[i + 1]? = some y → x < y) → incr l
  | [], _ => trivial
  | [_], _ => trivial
  | a :: b :: r, h => ⟨h 0 a b rfl rfl, incr_of fun i x y hx hy => h (i + 1) x y (by simpa using hx) (by simpa using hy)⟩
theorem incr_take {l : List Int} (k : Nat) (h : incr l) : incr (l.take k) := incr_of fun i x y hx hy => by
  rw [List.getElem?_take] at hx hy
  split at hx
  · split at hy
    · exact incr_pair h hx hy
    · cases hy
  · cases hx
theorem incr_snoc {l : List Int} {x : Int} (h : incr l) (hx : ∀ y, l.getLast? = some y → y < x) : incr (l ++ [x]) := by
  refine incr_of fun i a b ha hb => ?_
  by_cases hi : i + 1 < l.length
  · rw [List.getElem?_append_left (by omega)] at ha hb
    exact incr_pair h ha hb
  · have hl : i + 1 = l.length := by
      have := (List.getElem?_eq_some_iff.1 hb).1
      simp at this
      omega
    rw [List.getElem?_append_left (by omega)] at ha
    rw [List.getElem?_append_right (by omega)] at hb
    have e : i + 1 - l.length = 0 := by omega
    rw [e] at hb
    simp at hb
    subst hb
    refine hx a ?_
    rw [List.getLast?_eq_getElem?]
    rw [show l.length - 1 = i by omega]
    exact ha
theorem incr_lt : ∀ {l : List Int}, incr l → l.Pairwise (· < ·)
  | [], _ => List.Pairwise.nil
  | [_], _ => by simp
  | a :: b :: r, h => by
    have ih := incr_lt h.2
    rw [List.pairwise_cons]
    refine ⟨fun x hx => ?_, ih⟩
    rcases List.mem_cons.1 hx with rfl | hx
    · exact h.1
    · have := (List.pairwise_cons.1 ih).1 x hx
      have := h.1
      omega
end Go.Proofs.YtpdnipabaimofaaGreat

namespace Go.Proofs.YtpdnipabaimofaaGreat

/-- The pairs of the first k places. -/
def flatR (off to : List Int) (k : Nat) : List (Nat × Int) := (List.range k).flatMap fun v => (rowR off to v).map fun x => (v, x)
theorem flatR_succ (off to : List Int) (k : Nat) : flatR off to (k + 1) = flatR off to k ++ (rowR off to k).map (fun x => (k, x)) := by
  unfold flatR
  rw [List.range_succ, List.flatMap_append]
  simp
theorem mem_flatR {off to : List Int} {k : Nat} {p : Nat × Int} : p ∈ flatR off to k ↔ p.1 < k ∧ p.2 ∈ rowR off to p.1 := by
  unfold flatR
  rw [List.mem_flatMap]
  constructor
  · rintro ⟨v, hv, hp⟩
    obtain ⟨x, hx, rfl⟩ := List.mem_map.1 hp
    exact ⟨List.mem_range.1 hv, hx⟩
  · rintro ⟨h1, h2⟩
    exact ⟨p.1, List.mem_range.2 h1, List.mem_map.2 ⟨p.2, h2, rfl⟩⟩
/-- Pairs of one place rise. -/
def adj (l : List (Nat × Int)) : Prop := ∀ (i : Nat) (p q : Nat × Int), l[i]? = some p → l[i + 1]? = some q → p.1 = q.1 → p.2 < q.2
def okSeq (n : Nat) (l : List (Nat × Int)) : Prop := (∀ p ∈ l, 0 ≤ p.2 ∧ p.2 < (n : Int)) ∧ adj l
theorem adj_append {l m : List (Nat × Int)} : adj (l ++ m) ↔ adj l ∧ adj m ∧ ∀ p q, l.getLast? = some p → m.head? = some q → p.1 = q.1 → p.2 < q.2 := by
  constructor
  · intro h
    refine ⟨fun i p q hp hq => ?_, fun i p q hp hq => ?_, fun p q hp hq => ?_⟩
    · have h1 := (List.getElem?_eq_some_iff.1 hp).1
      have h2 := (List.getElem?_eq_some_iff.1 hq).1
      exact h i p q (by rw [List.getElem?_append_left h1]; exact hp) (by rw [List.getElem?_append_left h2]; exact hq)
    · exact h (l.length + i) p q (by rw [List.getElem?_append_right (by omega)]; simpa using hp) (by rw [List.getElem?_append_right (by omega), show l.length + i + 1 - l.length = i + 1 by omega]; exact hq)
    · rw [List.getLast?_eq_getElem?] at hp
      have h1 := (List.getElem?_eq_some_iff.1 hp).1
      rw [List.head?_eq_getElem?] at hq
      refine h (l.length - 1) p q (by rw [List.getElem?_append_left h1]; exact hp) ?_
      rw [List.getElem?_append_right (by omega), show l.length - 1 + 1 - l.length = 0 by omega]
      exact hq
  · rintro ⟨h1, h2, h3⟩ i p q hp hq
    by_cases a : i + 1 < l.length
    · rw [List.getElem?_append_left (by omega)] at hp hq
      exact h1 i p q hp hq
    · by_cases b : i + 1 = l.length
      · rw [List.getElem?_append_left (by omega)] at hp
        rw [List.getElem?_append_right (by omega), show i + 1 - l.length = 0 by omega] at hq
        refine h3 p q ?_ (by rw [List.head?_eq_getElem?]; exact hq)
        rw [List.getLast?_eq_getElem?, show l.length - 1 = i by omega]
        exact hp
      · rw [List.getElem?_append_right (by omega)] at hp hq
        exact h2 (i - l.length) p q hp (by rw [show i - l.length + 1 = i + 1 - l.length by omega]; exact hq)
theorem adj_nil : adj [] := fun i p q hp => by simp at hp
theorem adj_one (x : Nat × Int) : adj [x] := fun i p q hp hq => by
  have := (List.getElem?_eq_some_iff.1 hq).1
  simp at this
theorem okSeq_nil (n : Nat) : okSeq n [] := ⟨fun p hp => by simp at hp, adj_nil⟩
theorem okSeq_snoc {n : Nat} {l : List (Nat × Int)} {x : Nat × Int} : okSeq n (l ++ [x]) ↔ okSeq n l ∧ (0 ≤ x.2 ∧ x.2 < (n : Int)) ∧ ∀ y, l.getLast? = some y → y.1 = x.1 → y.2 < x.2 := by
  unfold okSeq
  rw [adj_append]
  constructor
  · rintro ⟨h1, h2, _, h4⟩
    exact ⟨⟨fun p hp => h1 p (by simp [hp]), h2⟩, h1 x (by simp), fun y hy => h4 y x hy rfl⟩
  · rintro ⟨⟨h1, h2⟩, h3, h4⟩
    refine ⟨fun p hp => ?_, h2, adj_one x, fun p q hp hq => ?_⟩
    · rcases List.mem_append.1 hp with hp | hp
      · exact h1 p hp
      · rw [List.mem_singleton.1 hp]; exact h3
    · simp at hq
      subst hq
      exact h4 p hp
theorem okSeq_prefix {n : Nat} {l m : List (Nat × Int)} (h : okSeq n m) (hp : l <+: m) : okSeq n l := by
  obtain ⟨r, rfl⟩ := hp
  exact ⟨fun p hp => h.1 p (by simp [hp]), (adj_append.1 h.2).1⟩
theorem adj_row (k : Nat) (r : List Int) : adj (r.map fun x => (k, x)) ↔ incr r := by
  constructor
  · intro h
    exact incr_of fun i x y hx hy => h i (k, x) (k, y) (by rw [List.getElem?_map, hx]; rfl) (by rw [List.getElem?_map, hy]; rfl) rfl
  · intro h i p q hp hq _
    rw [List.getElem?_map, Option.map_eq_some_iff] at hp hq
    obtain ⟨x, hx, rfl⟩ := hp
    obtain ⟨y, hy, rfl⟩ := hq
    exact incr_pair h hx hy
/-- The pairs are right just where each row is. -/
theorem okSeq_flat (off to : List Int) (n : Nat) : ∀ k, okSeq n (flatR off to k) ↔ ∀ v ∈ List.range k, goodRowI n (rowR off to v)
  | 0 => by simp [flatR, okSeq_nil]
  | k + 1 => by
    have ih := okSeq_flat off to n k
    rw [flatR_succ]
    unfold okSeq at ih ⊢
    rw [adj_append, adj_row]
    constructor
    · rintro ⟨h1, h2, h3, _⟩ v hv
      have hv := List.mem_range.1 hv
      by_cases e : v = k
      · rw [e]
        exact ⟨fun w hw => h1 (k, w) (List.mem_append_right _ (List.mem_map.2 ⟨w, hw, rfl⟩)), h3⟩
      · exact ih.1 ⟨fun p hp => h1 p (List.mem_append_left _ hp), h2⟩ v (List.mem_range.2 (by omega))
    · intro h
      have h1 := ih.2 fun v hv => h v (by have := List.mem_range.1 hv; exact List.mem_range.2 (by omega))
      have h2 := h k (List.mem_range.2 (by omega))
      refine ⟨fun p hp => ?_, h1.2, h2.2, fun p q hp hq e => ?_⟩
      · rcases List.mem_append.1 hp with hp | hp
        · exact h1.1 p hp
        · obtain ⟨x, hx, rfl⟩ := List.mem_map.1 hp
          exact h2.1 x hx
      · have a := (mem_flatR.1 (List.mem_of_getLast? hp)).1
        have b := List.mem_of_head? hq
        obtain ⟨x, _, rfl⟩ := List.mem_map.1 b
        simp at e
        omega
theorem flatR_mono (off to : List Int) {j k : Nat} (h : j ≤ k) : flatR off to j <+: flatR off to k := by
  induction k with
  | zero => rw [show j = 0 by omega]; exact List.prefix_rfl
  | succ k ih =>
    by_cases e : j = k + 1
    · rw [e]; exact List.prefix_rfl
    · rw [flatR_succ]
      exact (ih (by omega)).trans (List.prefix_append _ _)
theorem flatR_pre (off to : List Int) {j k : Nat} (h : j < k) (i : Nat) : flatR off to j ++ ((rowR off to j).take i).map (fun x => (j, x)) <+: flatR off to k := by
  refine List.IsPrefix.trans ?_ (flatR_mono off to (j := j + 1) h)
  rw [flatR_succ]
  exact (List.prefix_append_right_inj _).2 ((List.take_prefix _ _).map _)
theorem flatR_pre_len (off to : List Int) {j k : Nat} (h : j < k) {i : Nat} (hi : i < (rowR off to j).length) : (flatR off to j ++ ((rowR off to j).take i).map (fun x => (j, x))).length < (flatR off to k).length := by
  have h1 := (flatR_pre off to h (i + 1)).length_le
  refine Nat.lt_of_lt_of_le ?_ h1
  rw [List.length_append, List.length_append, List.length_map, List.length_map, List.length_take, List.length_take]
  omega
end Go.Proofs.YtpdnipabaimofaaGreat

namespace Go.Proofs.YtpdnipabaimofaaGreat
open Go.RowKit

/-- Rows as an argument. -/
structure RwA where
  r : Rws
  A1 : Option Addr
  n1 : Nat
  c1 : Nat
  A2 : Option Addr
  n2 : Nat
  c2 : Nat
  A3 : Option Addr
  n3 : Nat
  c3 : Nat
  A4 : Option Addr
  n4 : Nat
  c4 : Nat
def rwVal (a : RwA) : Value := .agg #[.slice a.A1 a.n1 a.c1, .slice a.A2 a.n2 a.c2, .slice a.A3 a.n3 a.c3, .slice a.A4 a.n4 a.c4]
/-- Rows that can be read. -/
structure RwIn (w : World) (B : Nat) (a : RwA) : Prop where
  off : Reads w B 1 a.A1 a.n1 (iv a.r.off)
  to : Reads w B 1 a.A2 a.n2 (iv a.r.to)
  roff : Reads w B 1 a.A3 a.n3 (iv a.r.roff)
  rev : Reads w B 1 a.A4 a.n4 (iv a.r.rev)
  m1 : a.n1 ≤ maxLen
  m2 : a.n2 ≤ maxLen
  m3 : a.n3 ≤ maxLen
  m4 : a.n4 ≤ maxLen
  k2 : a.n2 ≤ a.c2
  k4 : a.n4 ≤ a.c4
section
variable {w w' : World} {B B' b : Nat} {a : RwA}
theorem RwIn.below (h : RwIn w B a) (hB : Below B w w') : RwIn w' B a := ⟨h.off.below hB, h.to.below hB, h.roff.below hB, h.rev.below hB, h.m1, h.m2, h.m3, h.m4, h.k2, h.k4⟩
theorem RwIn.more (h : RwIn w B a) (hB : B ≤ B') : RwIn w B' a := ⟨h.off.more hB, h.to.more hB, h.roff.more hB, h.rev.more hB, h.m1, h.m2, h.m3, h.m4, h.k2, h.k4⟩
/-- Rows in their cells. -/
def RwAt (w : World) (b : Nat) (a : RwA) : Prop := w.heap[b]? = some (.cells #[.slice a.A1 a.n1 a.c1, .slice a.A2 a.n2 a.c2, .slice a.A3 a.n3 a.c3, .slice a.A4 a.n4 a.c4] 27 (0, 0))
theorem RwAt.new (w : World) (a : RwA) : RwAt (w.alloc (.cells #[.slice a.A1 a.n1 a.c1, .slice a.A2 a.n2 a.c2, .slice a.A3 a.n3 a.c3, .slice a.A4 a.n4 a.c4] 27)) w.heap.size a := Array.getElem?_push_size
theorem RwAt.cells (h : RwAt w b a) : w.cell? ⟨b, 0, none⟩ = some (.slice a.A1 a.n1 a.c1) ∧ w.cell? ⟨b, 1, none⟩ = some (.slice a.A2 a.n2 a.c2) ∧ w.cell? ⟨b, 2, none⟩ = some (.slice a.A3 a.n3 a.c3) ∧ w.cell? ⟨b, 3, none⟩ = some (.slice a.A4 a.n4 a.c4) := by
  unfold RwAt at h
  refine ⟨?_, ?_, ?_, ?_⟩ <;> · rw [Lib.cell_of_heap h]; rfl
theorem RwAt.lt (h : RwAt w b a) : b < w.heap.size := (Array.getElem?_eq_some_iff.1 h).1
theorem RwAt.below (h : RwAt w b a) (hB : Below B w w') (hb : b < B) : RwAt w' b a := (hB.block b hb).trans h
end
/-- Rows in a box of the call's own, at block b, behind the world w. -/
structure RBoxed (w : World) (b : Nat) (a : RwA) (W : World) : Prop where
  box : RwAt W b a
  rw_ : RwIn W b a
  bel : Below b w W
section
variable {w W W' : World} {b : Nat} {a : RwA}
theorem RBoxed.step (h : RBoxed w b a W) (hB : Below W.heap.size W W') : RBoxed w b a W' :=
  ⟨h.box.below hB h.box.lt, h.rw_.below (hB.mono (Nat.le_of_lt h.box.lt)), h.bel.trans (hB.mono (Nat.le_of_lt h.box.lt))⟩
theorem RBoxed.in_ (h : RBoxed w b a W) : RwIn W W.heap.size a := h.rw_.more (Nat.le_of_lt h.box.lt)
theorem rboxed_new (h : RwIn w w.heap.size a) : RBoxed w w.heap.size a (w.alloc (.cells #[.slice a.A1 a.n1 a.c1, .slice a.A2 a.n2 a.c2, .slice a.A3 a.n3 a.c3, .slice a.A4 a.n4 a.c4] 27)) :=
  ⟨RwAt.new w a, h.below (below_one _ _), below_one _ _⟩
end
end Go.Proofs.YtpdnipabaimofaaGreat
