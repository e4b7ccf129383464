/-
  slices.SortFunc at hits: the kit's contract, laid at this program (written by the kit's lay-plain).
  slices.SortFunc on a row of hits of the call's own.
-/
import Derived.Test.YtpdnipabaimofaaGreatProg
import Derived.Test.YtpdnipabaimofaaGreatJ11
import Derived.Test.YtpdnipabaimofaaGreatJ02
import Derived.Shelf.SlSortCmp.WholeK
namespace Go.Proofs.YtpdnipabaimofaaGreat
open Go.Shelf
def sortHit_ren : Go.Shelf.Ren := ⟨fun | 6 => 147 | 15 => 94 | 14 => 180 | 28 => 120 | 29 => 121 | 20 => 193 | 21 => 194 | 22 => 195 | 23 => 196 | 24 => 197 | 25 => 198 | 26 => 199 | 27 => 200 | 46 => 204 | 47 => 139 | 48 => 140 | 49 => 205 | 50 => 206 | 57 => 207 | n => n, fun | 22 => 190 | 24 => 215 | 25 => 220 | 3 => 3 | 39 => 147 | 0 => 0 | 53 => 185 | 55 => 187 | 4 => 4 | 46 => 179 | 45 => 178 | 50 => 54 | 5 => 5 | 9 => 9 | 66 => 207 | 70 => 211 | 76 => 239 | 77 => 240 | n => n, fun | n => n⟩
theorem sortHit : Go.Proofs.SlLaysF0.n6 Tryz.prog sortHit_ren := {
  mixed := by kernel_rfl
  f6 := ⟨Tryz.f147.name, by decide, Tryz.func147.trans (congrArg some (by kernel_rfl))⟩
  f14 := ⟨Tryz.f180.name, by decide, Tryz.func180.trans (congrArg some (by kernel_rfl))⟩
  f15 := Tryz.func94.trans (congrArg some (by kernel_rfl))
  f20 := ⟨Tryz.f193.name, by decide, Tryz.func193.trans (congrArg some (by kernel_rfl))⟩
  f21 := ⟨Tryz.f194.name, by decide, Tryz.func194.trans (congrArg some (by kernel_rfl))⟩
  f22 := ⟨Tryz.f195.name, by decide, Tryz.func195.trans (congrArg some (by kernel_rfl))⟩
  f23 := ⟨Tryz.f196.name, by decide, Tryz.func196.trans (congrArg some (by kernel_rfl))⟩
  f24 := ⟨Tryz.f197.name, by decide, Tryz.func197.trans (congrArg some (by kernel_rfl))⟩
  f25 := ⟨Tryz.f198.name, by decide, Tryz.func198.trans (congrArg some (by kernel_rfl))⟩
  f26 := ⟨Tryz.f199.name, by decide, Tryz.func199.trans (congrArg some (by kernel_rfl))⟩
  f27 := ⟨Tryz.f200.name, by decide, Tryz.func200.trans (congrArg some (by kernel_rfl))⟩
  f28 := Tryz.func120.trans (congrArg some (by kernel_rfl))
  f29 := Tryz.func121.trans (congrArg some (by kernel_rfl))
  f46 := ⟨Tryz.f204.name, by decide, Tryz.func204.trans (congrArg some (by kernel_rfl))⟩
  f47 := Tryz.func139.trans (congrArg some (by kernel_rfl))
  f48 := Tryz.func140.trans (congrArg some (by kernel_rfl))
  f49 := ⟨Tryz.f205.name, by decide, Tryz.func205.trans (congrArg some (by kernel_rfl))⟩
  f50 := ⟨Tryz.f206.name, by decide, Tryz.func206.trans (congrArg some (by kernel_rfl))⟩
  f57 := ⟨Tryz.f207.name, by decide, Tryz.func207.trans (congrArg some (by kernel_rfl))⟩
  t0 := Tryz.underlying0
  a0 := Tryz.isAgg0
  z0 := Tryz.sizeOf0
  v0 := Tryz.zeroValue0
  t3 := Tryz.underlying3
  a3 := Tryz.isAgg3
  z3 := Tryz.sizeOf3
  v3 := Tryz.zeroValue3
  t4 := Tryz.underlying4
  a4 := Tryz.isAgg4
  z4 := Tryz.sizeOf4
  v4 := Tryz.zeroValue4
  t5 := Tryz.underlying5
  a5 := Tryz.isAgg5
  z5 := Tryz.sizeOf5
  v5 := Tryz.zeroValue5
  t9 := Tryz.underlying9
  a9 := Tryz.isAgg9
  z9 := Tryz.sizeOf9
  v9 := Tryz.zeroValue9
  t22 := Tryz.underlying190
  a22 := Tryz.isAgg190
  z22 := Tryz.sizeOf190
  v22 := Tryz.zeroValue190
  t25 := Tryz.underlying220
  a25 := Tryz.isAgg220
  z25 := Tryz.sizeOf220
  v25 := Tryz.zeroValue220
  t39 := Tryz.underlying147
  a39 := Tryz.isAgg147
  z39 := Tryz.sizeOf147
  v39 := Tryz.zeroValue147
  t45 := Tryz.underlying178
  a45 := Tryz.isAgg178
  z45 := Tryz.sizeOf178
  v45 := Tryz.zeroValue178
  t46 := Tryz.underlying179
  a46 := Tryz.isAgg179
  z46 := Tryz.sizeOf179
  v46 := Tryz.zeroValue179
  t50 := Tryz.underlying54
  a50 := Tryz.isAgg54
  z50 := Tryz.sizeOf54
  v50 := Tryz.zeroValue54
  t53 := Tryz.underlying185
  a53 := Tryz.isAgg185
  z53 := Tryz.sizeOf185
  v53 := Tryz.zeroValue185
  t55 := Tryz.underlying187
  a55 := Tryz.isAgg187
  z55 := Tryz.sizeOf187
  v55 := Tryz.zeroValue187
  t66 := Tryz.underlying207
  a66 := Tryz.isAgg207
  z66 := Tryz.sizeOf207
  v66 := Tryz.zeroValue207
  t70 := Tryz.underlying211
  a70 := Tryz.isAgg211
  z70 := Tryz.sizeOf211
  v70 := Tryz.zeroValue211
  t76 := Tryz.underlying239
  a76 := Tryz.isAgg239
  z76 := Tryz.sizeOf239
  v76 := Tryz.zeroValue239
  t77 := Tryz.underlying240
  a77 := Tryz.isAgg240
  z77 := Tryz.sizeOf240
  v77 := Tryz.zeroValue240 }
end Go.Proofs.YtpdnipabaimofaaGreat

namespace Go.Proofs.YtpdnipabaimofaaGreat
open Go.RowKit Go.Shelf Go.Lib Go.Sort

/-- Ahead, and not the same. -/
def hless (a b : Hit) : Prop := ¬ hle b a
instance (a b : Hit) : Decidable (hless a b) := by unfold hless; infer_instance
theorem lt_toI (x y : Hit) : ltOf toI x y = decide (hless x y) := by
  unfold ltOf
  rw [decide_eq_decide]
  exact toI_neg x y
theorem swo_toI : SWO (ltOf toI) where
  irrefl x := by rw [lt_toI]; exact decide_eq_false fun h => h (hle_refl x)
  trans x y z h1 h2 := by rw [lt_toI] at *; simp only [decide_eq_true_eq] at *; unfold hless hle at *; omega
  ntrans x y z h1 h2 := by rw [lt_toI] at *; simp only [decide_eq_false_iff_not] at *; unfold hless hle at *; omega
theorem toG_c (a b : Hit) (W : World) : Calls Tryz.prog 148 #[.agg (hitC a).toArray, .agg (hitC b).toArray] W fun e w' => e = .returned (.int .i64 (toI a b)) ∧ ∃ q os', w' = grow (W.drewN q) os' :=
  (hitTo_c a b W).mono fun _ _ ⟨h1, h2⟩ => ⟨h1, 0, #[hitBox a] ++ #[hitBox b], h2.trans ((congrArg (fun v : World => v.alloc (hitBox b)) (alloc_eq_grow _ _)).trans ((alloc_eq_grow _ _).trans (grow_grow _ _ _)))⟩
theorem flat_listH (d : List Hit) : (flatK hitC 2 d.toArray).toList = hitsV d := by
  apply List.ext_getElem?
  intro t
  by_cases ht : t < d.length * 2
  · have hq : t / 2 < d.length := by omega
    have h1 := flat_get hitC 2 hitC_len d (t / 2) (t % 2) d[t / 2] (List.getElem?_eq_getElem hq) (by omega)
    rw [show t / 2 * 2 + t % 2 = t by omega] at h1
    rw [show hitsV d = d.flatMap hitC from rfl, h1, Array.getElem?_toList]
    have h2 : t % 2 < (hitC d[t / 2]).length := by rw [hitC_len]; omega
    simp [flatK, ht, hq, h2]
  · rw [List.getElem?_eq_none (by simp; omega), List.getElem?_eq_none (by rw [hitsV_len]; omega)]
theorem holdsK_blockH {w : World} {g n : Nat} {cur : Array Value} {e : TypeId} {d : List Hit} (hb : w.heap[g]? = some (.cells cur e (0, 0))) (hl : d.length = n) (ht : cur.toList.take (n * 2) = hitsV d) : HoldsK hitC 2 w g 0 d.toArray := by
  intro j hj
  have hj' : j < n * 2 := by rw [size_flatK] at hj; simpa [hl] using hj
  refine ⟨?_, by simp [World.frozen?, hb]⟩
  have h1 : (cur.toList.take (n * 2))[j]? = (flatK hitC 2 d.toArray).toList[j]? := by rw [ht, flat_listH]
  rw [List.getElem?_take_of_lt hj'] at h1
  simp only [World.cell?, hb, Nat.zero_add]
  simp only [Option.isSome_none, Bool.false_eq_true, if_false]
  rw [← Array.getElem?_toList, h1, Array.getElem?_toList, Array.getElem?_eq_getElem hj, getElem!_pos _ j hj]
  rfl
theorem heap_sortedKH {w : World} {g n : Nat} {os : Array Obj} {cur : Array Value} {e : TypeId} {fr : Nat × Nat} (d : Array Hit) (hb : w.heap[g]? = some (.cells cur e fr)) :
    (sortWorldK hitC 2 w g 0 n d os).heap[g]? = some (.cells (putCells id 0 (flatK hitC 2 d) cur) e fr) := by
  have hg : g < w.heap.size := (Array.getElem?_eq_some_iff.1 hb).1
  unfold sortWorldK putRowK
  rw [heap_grow_old _ _ (by simpa using hg)]
  simp [putRow, mapBlock, Sort.ahead, Array.getElem?_modify, hb, onCells]
theorem grownBy_sortedKH {w : World} {g n : Nat} {os : Array Obj} (d : Array Hit) : w.grownBy (sortWorldK hitC 2 w g 0 n d os) (some g) := by
  unfold sortWorldK putRowK
  refine ⟨rfl, rfl, rfl, by simp, fun k hk hne => ?_⟩
  rw [heap_grow_old _ _ (by simpa using hk)]
  have : g ≠ k := fun e => hne (by rw [e])
  simp [putRow, mapBlock, Sort.ahead, Array.getElem?_modify, this]
theorem sortH_c {w : World} {base n c : Nat} {A : Option Addr} {d : List Hit} (ho : w.ownsRow base 215 2 (.slice A n c) n (hitsV d)) (hlim : n ≤ 1000000000) :
    Calls Tryz.prog 147 #[.slice A n c, .func (.func 148) #[] #[]] w fun e w' => e = .returned (.tuple #[]) ∧
      ∃ d', d'.Perm d ∧ d'.Pairwise (fun a b => ¬ hless b a) ∧ w'.ownsRow base 215 2 (.slice A n c) n (hitsV d') ∧ w.grownBy w' (A.map (·.block)) := by
  have hl : d.length = n := by have := ho.1; rw [hitsV_len] at this; omega
  rcases Nat.eq_zero_or_pos n with rfl | hn
  · refine (AnyF.slices_SortFunc_none sortHit A c _ w).mono ?_
    rintro e w' ⟨rfl, rfl⟩
    have : d = [] := List.eq_nil_of_length_eq_zero hl
    subst this
    exact ⟨rfl, [], List.Perm.refl _, List.Pairwise.nil, ho, only_refl _ _⟩
  · obtain ⟨h0, ⟨hv, hz⟩ | ⟨g, cap, cur, hv, hbase, hb, h1, h2, h3, h4⟩⟩ := id ho
    · omega
    injection hv with e1 e2 e3
    subst e1
    subst e3
    have hH : HoldsK hitC 2 w g 0 d.toArray := holdsK_blockH hb hl h4
    have hg : g < w.heap.size := (Array.getElem?_eq_some_iff.1 hb).1
    have eg : ∀ args w, (callFunc 148 args).run Tryz.prog w = .ok (.enter 148 args) w := enters_of Tryz.func148 (by kernel_rfl) rfl
    have hcmp : CmpLays Tryz.prog 148 #[] hitC 2 toI g 0 d.toArray.size w := fun _ _ _ _ x y => toG_c x y _
    have hcon := AnyQ.slices_SortFunc sortHit 2 Tryz.isAgg215 Tryz.sizeOf215 hitC (fun _ => rfl) hitC_one toI swo_toI 148 #[] g 0 c d.toArray w eg hcmp hH hg (by simp [hl]; omega)
    rw [show d.toArray.size = n by simpa using hl] at hcon
    refine hcon.mono ?_
    rintro e w' ⟨rfl, d', m, os, hp, hs, rfl⟩
    obtain ⟨p1, p2, p3⟩ := hp
    have hsz : d'.size = n := by rw [p1]; simpa using hl
    refine ⟨rfl, d'.toList, ?_, ?_, ?_, grownBy_sortedKH _⟩
    · have e1 : d'.extract 0 n = d' := by rw [← hsz]; simp
      have e2 : d.toArray.extract 0 n = d.toArray := by rw [← hl]; simp
      rw [e1, e2] at p3
      simpa using p3
    · rw [List.pairwise_iff_getElem]
      intro i j hi hj hij
      have hi' : i < d'.size := by simpa using hi
      have hj' : j < d'.size := by simpa using hj
      have := hs i j (Nat.zero_le _) hij (by omega)
      rw [lt_toI] at this
      simp only [decide_eq_false_iff_not] at this
      rw [getElem!_pos d' i hi', getElem!_pos d' j hj'] at this
      simpa using this
    · have hF := flat_listH d'.toList
      rw [Array.toArray_toList] at hF
      have hFs : (flatK hitC 2 d').size = n * 2 := by rw [size_flatK, hsz]
      refine ⟨by rw [hitsV_len]; simp [hsz], .inr ⟨g, c, _, rfl, hbase, heap_sortedKH d' hb, h1, h2, by simp [putCells, h3], ?_⟩⟩
      rw [← hFs, take_putCellsK _ _ (by rw [hFs, h3]; exact Nat.mul_le_mul_right _ h1), hF]
end Go.Proofs.YtpdnipabaimofaaGreat
