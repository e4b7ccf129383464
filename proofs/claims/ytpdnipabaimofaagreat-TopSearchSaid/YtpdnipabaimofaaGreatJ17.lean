/-
  slices.Sort and slices.Contains at numbers: the kit's contracts, laid at this program (written by the kit's lay-plain).
  Sets of numbers: of and meet, the walks.
  Postings in memory; Clone of numbers and Find: the walks.
  slices.Sort on numbers of the call's own; a set's rising: the walks.
-/
import Derived.Test.YtpdnipabaimofaaGreatProg
import Derived.Test.YtpdnipabaimofaaGreatJ01
import Derived.Test.YtpdnipabaimofaaGreatJ04
import Derived.Test.YtpdnipabaimofaaGreatJ06
import Derived.Shelf.Sort.Plain
import Derived.Shelf.Slices.Turned
import Derived.Shelf.Slices.In.SortNone
import Derived.Sort.OwnSortedInts
namespace Go.Proofs.YtpdnipabaimofaaGreat
open Go.Shelf
def shelf_lays189_ren : Go.Shelf.Ren := ⟨fun | 189 => 66 | 125 => 94 | 257 => 97 | 128 => 120 | 129 => 121 | 294 => 125 | 295 => 126 | 296 => 127 | 297 => 128 | 298 => 129 | 299 => 130 | 216 => 79 | 300 => 131 | 301 => 132 | 328 => 149 | 329 => 139 | 330 => 140 | 331 => 150 | 332 => 151 | 215 => 99 | 343 => 182 | n => n, fun | 28 => 25 | 3 => 3 | 46 => 147 | 0 => 0 | 51 => 185 | 53 => 187 | 4 => 4 | 183 => 179 | 182 => 178 | 131 => 54 | 5 => 5 | 9 => 9 | 218 => 207 | 222 => 211 | 228 => 239 | 229 => 240 | n => n, fun | n => n⟩
theorem shelf_lays189 : Go.Proofs.Lays.n189 Tryz.prog shelf_lays189_ren := {
  mixed := by kernel_rfl
  f125 := Tryz.func94.trans (congrArg some (by kernel_rfl))
  f128 := Tryz.func120.trans (congrArg some (by kernel_rfl))
  f129 := Tryz.func121.trans (congrArg some (by kernel_rfl))
  f189 := Tryz.func66.trans (congrArg some (by kernel_rfl))
  f215 := Tryz.func99.trans (congrArg some (by kernel_rfl))
  f216 := Tryz.func79.trans (congrArg some (by kernel_rfl))
  f257 := Tryz.func97.trans (congrArg some (by kernel_rfl))
  f294 := Tryz.func125.trans (congrArg some (by kernel_rfl))
  f295 := Tryz.func126.trans (congrArg some (by kernel_rfl))
  f296 := Tryz.func127.trans (congrArg some (by kernel_rfl))
  f297 := Tryz.func128.trans (congrArg some (by kernel_rfl))
  f298 := Tryz.func129.trans (congrArg some (by kernel_rfl))
  f299 := Tryz.func130.trans (congrArg some (by kernel_rfl))
  f300 := Tryz.func131.trans (congrArg some (by kernel_rfl))
  f301 := Tryz.func132.trans (congrArg some (by kernel_rfl))
  f328 := Tryz.func149.trans (congrArg some (by kernel_rfl))
  f329 := Tryz.func139.trans (congrArg some (by kernel_rfl))
  f330 := Tryz.func140.trans (congrArg some (by kernel_rfl))
  f331 := Tryz.func150.trans (congrArg some (by kernel_rfl))
  f332 := Tryz.func151.trans (congrArg some (by kernel_rfl))
  f343 := Tryz.func182.trans (congrArg some (by kernel_rfl))
  t0 := Tryz.underlying0
  a0 := Tryz.isAgg0
  z0 := Tryz.sizeOf0
  v0 := Tryz.zeroValue0
  t3 := Tryz.underlying3
  a3 := Tryz.isAgg3
  z3 := Tryz.sizeOf3
  v3 := Tryz.zeroValue3
  t4 := Tryz.underlying4
  a4 := Tryz.isAgg4
  z4 := Tryz.sizeOf4
  v4 := Tryz.zeroValue4
  t5 := Tryz.underlying5
  a5 := Tryz.isAgg5
  z5 := Tryz.sizeOf5
  v5 := Tryz.zeroValue5
  t9 := Tryz.underlying9
  a9 := Tryz.isAgg9
  z9 := Tryz.sizeOf9
  v9 := Tryz.zeroValue9
  t28 := Tryz.underlying25
  a28 := Tryz.isAgg25
  z28 := Tryz.sizeOf25
  v28 := Tryz.zeroValue25
  t46 := Tryz.underlying147
  a46 := Tryz.isAgg147
  z46 := Tryz.sizeOf147
  v46 := Tryz.zeroValue147
  t51 := Tryz.underlying185
  a51 := Tryz.isAgg185
  z51 := Tryz.sizeOf185
  v51 := Tryz.zeroValue185
  t53 := Tryz.underlying187
  a53 := Tryz.isAgg187
  z53 := Tryz.sizeOf187
  v53 := Tryz.zeroValue187
  t131 := Tryz.underlying54
  a131 := Tryz.isAgg54
  z131 := Tryz.sizeOf54
  v131 := Tryz.zeroValue54
  t182 := Tryz.underlying178
  a182 := Tryz.isAgg178
  z182 := Tryz.sizeOf178
  v182 := Tryz.zeroValue178
  t183 := Tryz.underlying179
  a183 := Tryz.isAgg179
  z183 := Tryz.sizeOf179
  v183 := Tryz.zeroValue179
  t218 := Tryz.underlying207
  a218 := Tryz.isAgg207
  z218 := Tryz.sizeOf207
  v218 := Tryz.zeroValue207
  t222 := Tryz.underlying211
  a222 := Tryz.isAgg211
  z222 := Tryz.sizeOf211
  v222 := Tryz.zeroValue211
  t228 := Tryz.underlying239
  a228 := Tryz.isAgg239
  z228 := Tryz.sizeOf239
  v228 := Tryz.zeroValue239
  t229 := Tryz.underlying240
  a229 := Tryz.isAgg240
  z229 := Tryz.sizeOf240
  v229 := Tryz.zeroValue240 }
def shelf_lays108_ren : Go.Shelf.Ren := ⟨fun | 108 => 122 | n => n, fun | 28 => 25 | 3 => 3 | 0 => 0 | 4 => 4 | n => n, fun | n => n⟩
theorem shelf_lays108 : Go.Proofs.Lays.n108 Tryz.prog shelf_lays108_ren := {
  mixed := by kernel_rfl
  f108 := Tryz.func122.trans (congrArg some (by kernel_rfl))
  t0 := Tryz.underlying0
  a0 := Tryz.isAgg0
  z0 := Tryz.sizeOf0
  v0 := Tryz.zeroValue0
  t3 := Tryz.underlying3
  a3 := Tryz.isAgg3
  z3 := Tryz.sizeOf3
  v3 := Tryz.zeroValue3
  t4 := Tryz.underlying4
  a4 := Tryz.isAgg4
  z4 := Tryz.sizeOf4
  v4 := Tryz.zeroValue4
  t28 := Tryz.underlying25
  a28 := Tryz.isAgg25
  z28 := Tryz.sizeOf25
  v28 := Tryz.zeroValue25 }
def shelf_lays107_ren : Go.Shelf.Ren := ⟨fun | 107 => 95 | 108 => 122 | n => n, fun | 28 => 25 | 3 => 3 | 4 => 4 | 0 => 0 | n => n, fun | n => n⟩
theorem shelf_lays107 : Go.Proofs.Lays.n107 Tryz.prog shelf_lays107_ren := {
  mixed := by kernel_rfl
  f107 := Tryz.func95.trans (congrArg some (by kernel_rfl))
  f108 := Tryz.func122.trans (congrArg some (by kernel_rfl))
  t0 := Tryz.underlying0
  a0 := Tryz.isAgg0
  z0 := Tryz.sizeOf0
  v0 := Tryz.zeroValue0
  t3 := Tryz.underlying3
  a3 := Tryz.isAgg3
  z3 := Tryz.sizeOf3
  v3 := Tryz.zeroValue3
  t4 := Tryz.underlying4
  a4 := Tryz.isAgg4
  z4 := Tryz.sizeOf4
  v4 := Tryz.zeroValue4
  t28 := Tryz.underlying25
  a28 := Tryz.isAgg25
  z28 := Tryz.sizeOf25
  v28 := Tryz.zeroValue25 }
open Go.Sort Go.RowKit Go.Lib in
theorem shelf_slices_Sort_int (blk off cap : Nat) (zs : List Int) (w : World) (hH : Holds (Value.int .i64) w blk off zs.toArray) (hblk : blk < w.heap.size) (hsz : zs.length < 4611686018427387904) :
    Calls Tryz.prog 66 #[.slice (some ⟨blk, off, none⟩) zs.length cap] w fun e w' =>
      e = .returned (.tuple #[]) ∧ ∃ n os, w' = grow (putRow (Value.int .i64) (Sort.ahead w n) blk off (zs.mergeSort fun x y => decide (x ≤ y)).toArray) os := Any.slices_Sort_int shelf_lays189 blk off cap zs w hH hblk hsz
open Go.Sort Go.RowKit Go.Lib in
theorem shelf_slices_Sort_int_none (p : Option Addr) (cap : Nat) (w : World) :
    Calls Tryz.prog 66 #[.slice p 0 cap] w fun e w' => e = .returned (.tuple #[]) ∧ w' = w := Any.slices_Sort_int_none shelf_lays189 p cap w
open Go.Sort Go.RowKit Go.Lib in
theorem shelf_slices_Contains_int (b off n c : Nat) (zs : List Int) (x : Int) (w : World) (hz : n ≤ zs.length) (hbig : n ≤ 9223372036854775807) (hc : ∀ j, j < zs.length → w.cell? ⟨b, off + j, none⟩ = some (.int .i64 (zs.getD j 0))) :
    Calls Tryz.prog 95 #[.slice (some ⟨b, off, none⟩) n c, .int .i64 x] w fun e w' => e = .returned (.bool ((zs.take n).contains x)) ∧ w' = w := Any.slices_Contains_int shelf_lays107 b off n c zs x w hz hbig hc
open Go.Sort Go.RowKit Go.Lib in
theorem shelf_slices_Contains_int_empty (a : Option Addr) (c : Nat) (x : Int) (w : World) :
    Calls Tryz.prog 95 #[.slice a 0 c, .int .i64 x] w fun e w' => e = .returned (.bool false) ∧ w' = w := Any.slices_Contains_int_empty shelf_lays107 a c x w
end Go.Proofs.YtpdnipabaimofaaGreat

namespace Go.Proofs.YtpdnipabaimofaaGreat
open Go.RowKit
open Go.Maps (Keyed IsMap)

/-- A set's value: the map behind it tells p. -/
def SetV (base N : Nat) (s : Value) (p : Int → Bool) (W : World) : Prop :=
  ∃ (b n : Nat) (D : DataW Bool) (f : Int → Option Bool), s = .map (some b) ∧ base ≤ b ∧ W.ownsMap Tryz.prog 3 bRI b n D ∧ n ≤ N ∧ MapI D f ∧ ∀ x, wfI x → (f x).getD false = p x
theorem SetV.below {base N : Nat} {s : Value} {p : Int → Bool} {W W' : World} (h : SetV base N s p W) (hB : Below W.heap.size W W') : SetV base N s p W' := by
  obtain ⟨b, n, D, f, h1, h2, h3, h4⟩ := h
  exact ⟨b, n, D, f, h1, h2, h3.kept (only_of_below hB none) (by simp), h4⟩
theorem SetV.more {base base' N : Nat} {s : Value} {p : Int → Bool} {W : World} (h : SetV base N s p W) (hb : base' ≤ base) : SetV base' N s p W := by
  obtain ⟨b, n, D, f, h1, h2, h3, h4⟩ := h
  exact ⟨b, n, D, f, h1, by omega, h3, h4⟩

set_option maxRecDepth 100000 in
set_option maxHeartbeats 2000000 in
theorem setOf_c (A : Option Addr) (n c : Nat) (l : List Int) (w : World) (hr : Reads w w.heap.size 1 A n (iv l)) (hn : n ≤ 100000) (hw : ∀ x ∈ l, wfI x) :
    Calls Tryz.prog 27 #[.slice A n c] w fun e w' => ∃ s, e = .returned s ∧ SetV w.heap.size n s (fun x => decide (x ∈ l)) w' ∧ Below w.heap.size w w' := by
  have hl := hr.int_len
  have HR := Lib.hid hr
  have HW := Lib.hid hw
  clear hr hw
  have hmm := @run_makeMap Tryz.prog
  go_enter Tryz.func27, Tryz.ntmps27
  go_wp2_with (fail)
  clear hmm
  have HL := Lib.hid hl
  clear hl
  go_loopw [9] (fun i wr => ∃ (j : Nat) (D : DataW Bool) (f : Int → Option Bool), j ≤ n ∧ i = .int .i64 j ∧ wr.ownsMap Tryz.prog 3 bRI w.heap.size j D ∧ Hid (MapI D f) ∧ Hid (∀ x, f x = if x ∈ l.take j then some true else none) ∧ Below w.heap.size w wr) (fun i _ => n - (intOf i).toNat)
  case atStart => exact ⟨0, .map [], fun _ => none, Nat.zero_le _, rfl, World.ownsMap_made _ _ _ _, MapI.nil, fun x => by simp, (Below.refl _ _).alloc (Nat.le_refl _) _⟩
  case round =>
    obtain ⟨j, D, f, hj, rfl, hown, hD, hf, hB⟩ := hrel
    by_cases hlt : j < n
    · obtain ⟨b, o, x, rfl, hx, d0⟩ := (HR.out.below hB).int_at hlt
      have hwx : Hid (wfI x) := HW.out x (List.mem_of_getElem? hx.out)
      have HX := Lib.hid hx.out
      have HB := Lib.hid hB
      have HOW := Lib.hid hown
      have f1 : (0 : Int) ≤ (j : Int) := by omega
      have f2 : (j : Int) < (n : Int) := by omega
      clear hx hB hown
      go_wp2_with (at_mapUpdate; refine wpList_putI elIB rfl rfl _ _ _ rfl rfl HOW.out (by unfold maxLen; omega) hD.out rfl hwx.out true rfl ?_; intro w1 D1 hown1 hm1 hg1)
      have HB1 := Lib.hid (HB.out.grown hg1 HB.out.size (fun q hq => by cases hq; exact Nat.le_refl _))
      have HO1 := Lib.hid hown1
      clear hown1 hg1
      go_roundw
      case rel =>
        refine ⟨j + 1, D1, _, by omega, by go_num, HO1.out, hm1, fun m => ?_, HB1.out⟩
        rw [hf.out m, List.take_add_one, HX.out, Option.toList_some]
        by_cases e : m = x
        · subst e; simp
        · simp [e]
      case measure => simp [intOf]; omega
    · obtain rfl : j = n := by omega
      have HB := Lib.hid hB
      have HS : Hid (SetV w.heap.size j (.map (some w.heap.size)) (fun x => decide (x ∈ l)) wr) := ⟨w.heap.size, j, D, f, rfl, Nat.le_refl _, hown, Nat.le_refl _, hD.out, fun x _ => by
        rw [hf.out x, List.take_of_length_le (by rw [HL.out]; exact Nat.le_refl _)]
        by_cases e : x ∈ l
        · simp [e]
        · simp [e]⟩
      clear hown hD hf hB
      go_wp2_with (fail)
      go_ret
      exact ⟨_, rfl, HS.out, HB.out⟩

set_option maxRecDepth 100000 in
set_option maxHeartbeats 4000000 in
theorem meetS_c (b1 b2 _ _ n1 n2 : Nat) (s1 s2 : Value) (p1 p2 : Int → Bool) (w : World) (h1 : SetV b1 n1 s1 p1 w) (h2 : SetV b2 n2 s2 p2 w) (hn : n1 ≤ 100000) :
    Calls Tryz.prog 16 #[s1, s2] w fun e w' => ∃ s, e = .returned s ∧ SetV w.heap.size n1 s (fun x => p1 x && p2 x) w' ∧ Below w.heap.size w w' := by
  obtain ⟨k1, m1, D1, f1, rfl, -, ho1, hm1, hM1, hp1⟩ := h1
  obtain ⟨k2, m2, D2, f2, rfl, -, ho2, hm2, hM2, hp2⟩ := h2
  have hk1 := ho1.lt
  have hk2 := ho2.lt
  have HO1 := Lib.hid (ho1.alloc (.map #[] 0))
  have HO2 := Lib.hid (ho2.alloc (.map #[] 0))
  have HM1 := Lib.hid hM1
  have HM2 := Lib.hid hM2
  have HP1 := Lib.hid hp1
  have HP2 := Lib.hid hp2
  clear ho1 ho2 hM1 hM2 hp1 hp2
  have hmm := @run_makeMap Tryz.prog
  go_enter Tryz.func16, Tryz.ntmps16
  go_wp2_with (at_range; refine wpList_rangeI elIB rfl _ rfl rfl HO1.out HM1.out ?_; intro w0 cnt0 left0 hrg0 hcnt0 hmet0 hg0 hs0)
  clear hmm
  try go_frame
  have hB0 : Below w.heap.size w w0 := ((Below.refl _ w).alloc (Nat.le_refl _) (.map #[] 0)).grown hg0 (by simp) (fun j hj => by cases hj)
  have HO20 := Lib.hid (HO2.out.kept hg0 (by simp))
  have HOO : Hid (w0.ownsMap Tryz.prog 3 bRI w.heap.size 0 (.map [])) := (World.ownsMap_made w Tryz.prog 3 bRI).kept hg0 (by simp)
  have hs0' : w0.heap.size = w.heap.size + 2 := by simpa using hs0
  have e2 : (w.alloc (.map #[] 0)).heap.size = w.heap.size + 1 := by simp
  rw [e2] at hrg0 ⊢
  have HB0 := Lib.hid hB0
  clear hg0 hs0 hB0 HO1 HO2 e2
  go_loopw [6] (fun _ wq => ∃ (left : Lit → Bool) (cnt : Nat) (os : List Int) (D : DataW Bool), wq.ranges Tryz.prog 3 bRI k1 (w.heap.size + 1) m1 D1 left cnt ∧ Hid (MetI f1 left os) ∧ wq.ownsMap Tryz.prog 3 bRI w.heap.size os.length D ∧ Hid (MapI D fun x => if x ∈ os then some ((f1 x).getD false && (f2 x).getD false) else none) ∧
    wq.ownsMap Tryz.prog 3 bRI k2 m2 D2 ∧ os.length + cnt ≤ m1 ∧ Below w.heap.size w wq ∧ w.heap.size + 2 ≤ wq.heap.size) (fun _ wq => wq.rangeLeft k1 (w.heap.size + 1))
  case atStart => exact ⟨left0, cnt0, [], .map [], hrg0, hmet0, HOO.out, by show MapI _ _; simpa using MapI.nil, HO20.out, by simpa using hcnt0, HB0.out, by omega⟩
  case round =>
    clear hrg0 hmet0 HOO HO20 HB0 hs0' hcnt0
    obtain ⟨left, cnt, os, D, hrg, hmet, hown, hM, ho2, hcnt, hB, hsz⟩ := hrel
    have HL := Lib.hid hrg.left_eq
    have HOW := Lib.hid hown
    have HO2 := Lib.hid ho2
    have HB := Lib.hid hB
    clear hown ho2 hB
    go_wp2_with (at_next; refine wpList_nextI elIB rfl _ rfl rfl hrg HM1.out hmet.out ?_ ?_)
    · intro hd
      have HS : Hid (SetV w.heap.size n1 (.map (some w.heap.size)) (fun x => p1 x && p2 x) wr) := ⟨w.heap.size, os.length, D, _, rfl, Nat.le_refl _, HOW.out, by omega, hM.out, fun x hx => by
        show _ = (p1 x && p2 x)
        rw [← HP1.out x hx, ← HP2.out x hx]
        by_cases e : x ∈ os
        · simp [e]
        · have : f1 x = none := by
            cases hfx : f1 x with
            | none => rfl
            | some y => exact absurd ((hd.out x hx).2 (by rw [hfx]; rfl)) e
          simp [e, this]⟩
      clear hrg hmet hd
      go_wp2_with (fail)
      go_ret
      exact ⟨_, rfl, HS.out, HB.out⟩
    · intro x
      have hpre : Hid (∀ (left' : Lit → Bool) (w1 : World) (cnt1 : Nat), wr.grownBy w1 (some (w.heap.size + 1)) → Below w.heap.size w w1 ∧ w1.ownsMap Tryz.prog 3 bRI w.heap.size os.length D ∧ w1.ownsMap Tryz.prog 3 bRI k2 m2 D2) := fun left' w1 cnt1 hg1 =>
        ⟨HB.out.grown hg1 HB.out.size (fun j hj => by injection hj; omega), HOW.out.kept hg1 (by intro e; injection e; omega), HO2.out.kept hg1 (by intro e; injection e; omega)⟩
      have hstep : Hid (∀ (c : Bool) (D3 : DataW Bool) (y : Bool), (f1 x).getD false = c → y = (c && (f2 x).getD false) → MapI D3 (fun m => if m = x then some y else (if m ∈ os then some ((f1 m).getD false && (f2 m).getD false) else none)) → MapI D3 (fun m => if m ∈ os ++ [x] then some ((f1 m).getD false && (f2 m).getD false) else none)) := fun c D3 y hc hy h =>
        h.same fun m _ => by
          by_cases e : m = x
          · subst e; simp [hc, hy]
          · by_cases e2 : m ∈ os <;> simp [e, e2]
      clear hmet HB HOW HO2 hrg
      refine ⟨?_, ?_⟩
      · intro left' w1 cnt1 hwf hfx hmet1 hrg1 hlt1 hg1 hs1 hen
        obtain ⟨hB1, hOW1, hO21⟩ := hpre.out left' w1 cnt1 hg1
        have HB1 := Lib.hid hB1
        have HOW1 := Lib.hid hOW1
        have HO21 := Lib.hid hO21
        have HRG := Lib.hid hrg1
        have hsz1 : w.heap.size + 2 ≤ w1.heap.size := by omega
        clear hg1 hrg1 hB1 hOW1 hO21 hs1
        go_wp2_with (at_mapUpdate; refine wpList_putI elIB rfl rfl _ _ _ rfl rfl HOW1.out (by unfold maxLen; omega) hM.out rfl hwf.out false rfl ?_; intro w2 D3 hown2 hm2' hg2)
        have hrg2 := HRG.out.kept hg2 (by intro e; injection e; omega) (by intro e; injection e; omega)
        go_roundw
        case rel =>
          refine ⟨left', cnt1, os ++ [x], D3, hrg2, hmet1, by simpa using hown2, hstep.out false D3 false (by rw [hfx.out.1]; rfl) (by simp) hm2'.out, HO21.out.kept hg2 (by intro e; injection e; omega), by simp; omega, HB1.out.grown hg2 HB1.out.size (fun q hq => by cases hq; exact Nat.le_refl _), Nat.le_trans hsz1 hg2.size⟩
        case measure => rw [hrg2.left_eq, HL.out]; exact hlt1
      · intro left' w1 cnt1 hwf hfx hmet1 hrg1 hlt1 hg1 hs1 hen
        obtain ⟨hB1, hOW1, hO21⟩ := hpre.out left' w1 cnt1 hg1
        have HB1 := Lib.hid hB1
        have HOW1 := Lib.hid hOW1
        have HO21 := Lib.hid hO21
        have HRG := Lib.hid hrg1
        have hsz1 : w.heap.size + 2 ≤ w1.heap.size := by omega
        clear hg1 hrg1 hB1 hOW1 hO21 hs1
        go_wp2_with (first
          | (at_lookup; refine wpList_lookI elIB (by kernel_rfl) _ _ rfl rfl HO21.out HM2.out rfl hwf.out ?_)
          | (at_mapUpdate; refine wpList_putI elIB rfl rfl _ _ _ rfl rfl HOW1.out (by unfold maxLen; omega) hM.out rfl hwf.out ((f2 x).getD false) rfl ?_; intro w2 D3 hown2 hm2' hg2))
        have hrg2 := HRG.out.kept hg2 (by intro e; injection e; omega) (by intro e; injection e; omega)
        go_roundw
        case rel =>
          refine ⟨left', cnt1, os ++ [x], D3, hrg2, hmet1, by simpa using hown2, hstep.out true D3 ((f2 x).getD false) (by rw [hfx.out.1]; rfl) (by simp) hm2'.out, HO21.out.kept hg2 (by intro e; injection e; omega), by simp; omega, HB1.out.grown hg2 HB1.out.size (fun q hq => by cases hq; exact Nat.le_refl _), Nat.le_trans hsz1 hg2.size⟩
        case measure => rw [hrg2.left_eq, HL.out]; exact hlt1
end Go.Proofs.YtpdnipabaimofaaGreat

namespace Go.Proofs.YtpdnipabaimofaaGreat
open Go.RowKit Go.Shelf Go.Lib

/-- A posting, as it lies. -/
structure Pst where
  w : ByteArray
  A : Option Addr
  n : Nat
  c : Nat
  l : List Int
def pstC (p : Pst) : List Value := [.string p.w, .slice p.A p.n p.c]
def PstIn (w : World) (B : Nat) (p : Pst) : Prop := Reads w B 1 p.A p.n (iv p.l) ∧ p.n ≤ maxLen ∧ ∀ x ∈ p.l, wfI x
/-- Postings, as they lie. -/
structure PsIn (w : World) (B : Nat) (A : Option Addr) (n : Nat) (L : List Pst) : Prop where
  row : Reads w B 2 A n (L.flatMap pstC)
  at_ : ∀ p ∈ L, PstIn w B p
section
variable {w w' : World} {B B' n : Nat} {A : Option Addr} {L : List Pst}
theorem PsIn.below (h : PsIn w B A n L) (hB : Below B w w') : PsIn w' B A n L := ⟨h.row.below hB, fun p hp => ⟨(h.at_ p hp).1.below hB, (h.at_ p hp).2⟩⟩
theorem PsIn.more (h : PsIn w B A n L) (hB : B ≤ B') : PsIn w B' A n L := ⟨h.row.more hB, fun p hp => ⟨(h.at_ p hp).1.more hB, (h.at_ p hp).2⟩⟩
theorem PsIn.len (h : PsIn w B A n L) : L.length = n := by
  have := h.row.1
  rw [flat_len pstC 2 (fun _ => rfl)] at this
  omega
theorem PsIn.get (h : PsIn w B A n L) {k : Nat} (hk : k < n) : ∃ b o p, A = some ⟨b, o, none⟩ ∧ Hid (L[k]? = some p) ∧ w.cell? ⟨b, o + k * 2, none⟩ = some (.string p.w) ∧ w.cell? ⟨b, o + k * 2 + 1, none⟩ = some (.slice p.A p.n p.c) := by
  have hl := h.len
  obtain ⟨b, o, e, _, hc⟩ := h.row.2 (by omega)
  have hx : L[k]? = some (L[k]'(by omega)) := List.getElem?_eq_getElem (by omega)
  have hf := fun r hr => flat_get pstC 2 (fun _ => rfl) L k r _ hx hr
  exact ⟨b, o, _, e, hx, hc _ _ (hf 0 (by omega)), by rw [Nat.add_assoc]; exact hc _ _ (hf 1 (by omega))⟩
end
/-- A word's places. -/
def findP (L : List Pst) (w : ByteArray) : List Int := ((L.find? fun p => decide (p.w = w)).map Pst.l).getD []
theorem findP_at {L : List Pst} {w : ByteArray} {j : Nat} {p : Pst} (h : ∀ q ∈ L.take j, q.w ≠ w) (hp : L[j]? = some p) (hw : p.w = w) : findP L w = p.l := by
  unfold findP
  obtain ⟨hj, he⟩ := List.getElem?_eq_some_iff.1 hp
  have e : L = L.take j ++ p :: L.drop (j + 1) := by
    rw [← he, ← List.drop_eq_getElem_cons hj, List.take_append_drop]
  rw [e, List.find?_append, List.find?_eq_none.2 (fun q hq => by simpa using h q hq), List.find?_cons_of_pos (by simpa using hw)]
  rfl
theorem findP_none {L : List Pst} {w : ByteArray} (h : ∀ q ∈ L, q.w ≠ w) : findP L w = [] := by
  unfold findP
  rw [List.find?_eq_none.2 (fun q hq => by simpa using h q hq)]
  rfl
theorem findP_wf {w : World} {B n : Nat} {A : Option Addr} {L : List Pst} (h : PsIn w B A n L) (s : ByteArray) : ∀ x ∈ findP L s, wfI x := fun x hx => by
  unfold findP at hx
  cases hf : L.find? fun p => decide (p.w = s) with
  | none => rw [hf] at hx; simp at hx
  | some p => rw [hf] at hx; exact (h.at_ p (List.mem_of_find?_eq_some hf)).2.2 x hx

set_option maxRecDepth 100000 in
set_option maxHeartbeats 2000000 in
theorem find_c (A : Option Addr) (n c : Nat) (L : List Pst) (s : ByteArray) (w : World) (h : PsIn w w.heap.size A n L) (hn : n ≤ 1000000) (hp : ∀ p ∈ L, p.n ≤ 1000) :
    Calls Tryz.prog 28 #[.slice A n c, .string s] w fun e w' => ∃ A' n' c', e = .returned (.slice A' n' c') ∧ n' ≤ 1000 ∧ Reads w' w'.heap.size 1 A' n' (iv (findP L s)) ∧ Below w.heap.size w w' := by
  have hl := Lib.hid h.len
  have HP := Lib.hid h
  have HN := Lib.hid hp
  clear h hp
  go_enter Tryz.func28, Tryz.ntmps28
  go_wp2_with (fail)
  go_loopw [9] (fun i wr => ∃ (j : Nat), j ≤ n ∧ i = .int .i64 j ∧ Hid (∀ q ∈ L.take j, q.w ≠ s) ∧ Below w.heap.size w wr) (fun i _ => n - (intOf i).toNat)
  case atStart => exact ⟨0, Nat.zero_le _, rfl, fun q hq => by simp at hq, Below.refl _ _⟩
  case round =>
    obtain ⟨j, hj, rfl, hT, hB⟩ := hrel
    by_cases hlt : j < n
    · obtain ⟨b, o, p, rfl, hx, d0, d1⟩ := (HP.out.below hB).get hlt
      have HX := Lib.hid hx.out
      have f1 : (0 : Int) ≤ (j : Int) := by omega
      have f2 : (j : Int) < (n : Int) := by omega
      have HBX := Lib.hid (hB.trans ((below_one wr (.cells #[.string p.w, .slice p.A p.n p.c] 33)).mono hB.size))
      clear hx hB
      by_cases e : p.w = s
      · have e1 : (p.w.toList == s.toList) = true := by rw [e]; simp
        have HF : Hid (findP L s = p.l) := findP_at hT.out HX.out e
        have hn1 : p.n ≤ 1000 := HN.out p (List.mem_of_getElem? HX.out)
        clear e
        go_wp2_with (fail)
        have hpi := ((HP.out.below HBX.out).more HBX.out.size).at_ p (List.mem_of_getElem? HX.out)
        refine (cloneI_c p.A p.n p.c p.l _ hpi.1 (by omega)).mono ?_
        rintro e w1 ⟨A1, c1, rfl, ho1, hB1⟩
        have HR1 := Lib.hid (own_reads ho1)
        have HB1 := Lib.hid (HBX.out.trans (hB1.mono HBX.out.size))
        clear ho1 hB1 hpi
        go_wp2_with (fail)
        go_ret
        exact ⟨A1, p.n, c1, rfl, hn1, by rw [HF.out]; exact HR1.out, HB1.out⟩
      · have e1 : (p.w.toList == s.toList) = false := by rw [bytes_beq]; exact decide_eq_false e
        have hT' : Hid (∀ q ∈ L.take (j + 1), q.w ≠ s) := fun q hq => by
          rw [List.take_add_one, HX.out, Option.toList_some] at hq
          rcases List.mem_append.1 hq with hq | hq
          · exact hT.out q hq
          · rw [List.mem_singleton.1 hq]; exact e
        clear e
        go_wp2_with (fail)
        go_roundw
        case rel => exact ⟨j + 1, by omega, by go_num, hT', HBX.out⟩
        case measure => simp [intOf]; omega
    · obtain rfl : j = n := by omega
      have HF : Hid (findP L s = []) := findP_none fun q hq => hT.out q (by rw [List.take_of_length_le (by rw [hl.out]; exact Nat.le_refl _)]; exact hq)
      have HB := Lib.hid hB
      clear hB
      go_wp2_with (fail)
      go_ret
      exact ⟨none, 0, 0, rfl, by omega, by rw [HF.out]; exact Reads.none_, HB.out⟩
end Go.Proofs.YtpdnipabaimofaaGreat

namespace Go.Proofs.YtpdnipabaimofaaGreat
open Go.RowKit Go.Shelf Go.Lib Go.Sort
open Go.Maps (Keyed IsMap)

theorem sortI_c {w : World} {base n c : Nat} {A : Option Addr} {d : List Int} (ho : w.ownsRow base 3 1 (.slice A n c) n (iv d)) (hlim : n ≤ 1000000000) :
    Calls Tryz.prog 66 #[.slice A n c] w fun e w' => e = .returned (.tuple #[]) ∧ ∃ d' : List Int, Hid (∀ x, x ∈ d' ↔ x ∈ d) ∧ w'.ownsRow base 3 1 (.slice A n c) n (iv d') ∧ w.grownBy w' (A.map (·.block)) := by
  have hl : d.length = n := by have := ho.1; rw [iv_len] at this; omega
  rcases Nat.eq_zero_or_pos n with rfl | hn
  · refine (shelf_slices_Sort_int_none A c w).mono ?_
    rintro e w' ⟨rfl, rfl⟩
    exact ⟨rfl, d, fun _ => Iff.rfl, ho, only_refl _ _⟩
  · obtain ⟨h0, ⟨hv, hz⟩ | ⟨g, cap, cur, hv, hbase, hb, h1, h2, h3, h4⟩⟩ := id ho
    · omega
    injection hv with e1 e2 e3
    subst e1
    subst e3
    subst hl
    have hg : g < w.heap.size := (Array.getElem?_eq_some_iff.1 hb).1
    have hcon := shelf_slices_Sort_int g 0 c d w (holds_of_blockI hb (by simpa [iv] using h4)) hg (by omega)
    refine hcon.mono ?_
    rintro e w' ⟨rfl, m, os, rfl⟩
    have hlen : (d.mergeSort fun x y => decide (x ≤ y)).length = d.length := by simp
    have ho' := ownsRow_sortedI (n := m) (os := os) hlen hbase hb h1 h2 (by simpa using h3)
    exact ⟨rfl, _, fun x => List.mem_mergeSort, by simpa [iv] using ho', grownBy_sortedI _⟩

set_option maxRecDepth 100000 in
set_option maxHeartbeats 4000000 in
theorem rising_c (b1 n1 : Nat) (s1 : Value) (p1 : Int → Bool) (w : World) (h1 : SetV b1 n1 s1 p1 w) (hn : n1 ≤ 100000) :
    Calls Tryz.prog 30 #[s1] w fun e w' => ∃ (A' : Option Addr) (n' c' : Nat) (ps : List Int), e = .returned (.slice A' n' c') ∧ n' ≤ n1 ∧ Hid (∀ x, x ∈ ps ↔ wfI x ∧ p1 x = true) ∧ w'.ownsRow w.heap.size 3 1 (.slice A' n' c') n' (iv ps) ∧ Below w.heap.size w w' := by
  obtain ⟨k1, m1, D1, f1, rfl, -, ho1, hm1, hM1, hp1⟩ := h1
  have hk1 := ho1.lt
  have HO1 := Lib.hid ho1
  have HM1 := Lib.hid hM1
  have HP1 := Lib.hid hp1
  clear ho1 hM1 hp1
  go_enter Tryz.func30, Tryz.ntmps30
  go_wp2_with (at_range; refine wpList_rangeI elIB rfl _ rfl rfl HO1.out HM1.out ?_; intro w0 cnt0 left0 hrg0 hcnt0 hmet0 hg0 hs0)
  try go_frame
  have hB0 : Below w.heap.size w w0 := (Below.refl _ w).grown hg0 (Nat.le_refl _) (fun j hj => by cases hj)
  have HB0 := Lib.hid hB0
  clear hg0 hB0 HO1
  go_loopw [3] (fun v wr => ∃ (left : Lit → Bool) (cnt : Nat) (os : List Int) (A : Option Addr) (c : Nat) (l : List Int), v = .slice A l.length c ∧ wr.ranges Tryz.prog 3 bRI k1 w.heap.size m1 D1 left cnt ∧ Hid (MetI f1 left os) ∧ Hid (∀ x, x ∈ l ↔ x ∈ os ∧ f1 x = some true) ∧
    wr.ownsRow (w.heap.size + 1) 3 1 (.slice A l.length c) l.length (iv l) ∧ l.length + cnt ≤ m1 ∧ Below w.heap.size w wr ∧ w.heap.size + 1 ≤ wr.heap.size) (fun _ wr => wr.rangeLeft k1 w.heap.size)
  case atStart => exact ⟨left0, cnt0, [], none, 0, [], rfl, hrg0, hmet0, fun x => by simp, own_nil, by simpa using hcnt0, HB0.out, by omega⟩
  case round =>
    clear hrg0 hmet0 HB0 hs0 hcnt0
    obtain ⟨left, cnt, os, A, c, l, rfl, hrg, hmet, hl, ho, hcnt, hB, hsz⟩ := hrel
    have HL := Lib.hid hrg.left_eq
    have HO := Lib.hid ho
    have HB := Lib.hid hB
    clear ho hB
    go_wp2_with (at_next; refine wpList_nextI elIB rfl _ rfl rfl hrg HM1.out hmet.out ?_ ?_)
    · intro hd
      have hmem : Hid (∀ x, x ∈ l ↔ wfI x ∧ p1 x = true) := fun x => by
        rw [hl.out x]
        constructor
        · rintro ⟨h1, h2⟩
          have hw := (hmet.out.sub x h1).2
          refine ⟨hw, ?_⟩
          rw [← HP1.out x hw, h2]; rfl
        · rintro ⟨hw, h2⟩
          rw [← HP1.out x hw] at h2
          cases hf : f1 x with
          | none => rw [hf] at h2; cases h2
          | some y => rw [hf] at h2; cases h2; exact ⟨(hd.out x hw).2 (by rw [hf]; rfl), rfl⟩
      clear hrg hmet hd hl
      go_wp2_with (fail)
      refine (sortI_c HO.out (by omega)).mono ?_
      rintro e w3 ⟨rfl, d', hd', ho3, hg3⟩
      have HO3 := Lib.hid (own_more (base := w.heap.size) ho3 (by omega))
      have HB3 := Lib.hid (HB.out.grown hg3 HB.out.size (fun j hj => by
        cases hA : A with
        | none => rw [hA] at hj; cases hj
        | some a => rw [hA] at hj; have := (own_lt HO.out a hA).1; simp at hj; omega))
      have hm' : Hid (∀ x, x ∈ d' ↔ wfI x ∧ p1 x = true) := fun x => (hd'.out x).trans (hmem.out x)
      clear ho3 hg3
      go_wp2_with (fail)
      go_ret
      exact ⟨A, l.length, c, d', rfl, by omega, hm'.out, HO3.out, HB3.out⟩
    · intro x
      have hpre : Hid (∀ (w1 : World), wr.grownBy w1 (some w.heap.size) → Below w.heap.size w w1 ∧ w1.ownsRow (w.heap.size + 1) 3 1 (.slice A l.length c) l.length (iv l)) := fun w1 hg1 =>
        ⟨HB.out.grown hg1 HB.out.size (fun j hj => by injection hj; omega), own_only HO.out hg1 (fun a ha e => by have := (own_lt HO.out a ha).1; injection e; omega)⟩
      clear HB HO hrg hmet
      refine ⟨?_, ?_⟩
      · intro left' w1 cnt1 hwf hfx hmet1 hrg1 hlt1 hg1 hs1 hen
        obtain ⟨hB1, hO1⟩ := hpre.out w1 hg1
        have HB1 := Lib.hid hB1
        have HO1 := Lib.hid hO1
        have HRG := Lib.hid hrg1
        have hsz1 : w.heap.size + 1 ≤ w1.heap.size := by omega
        have hl' : Hid (∀ y, y ∈ l ↔ y ∈ os ++ [x] ∧ f1 y = some true) := fun y => by
          rw [hl.out y]
          by_cases e : y = x
          · subst e; simp [hfx.out.1]
          · simp [e]
        have HM1' := Lib.hid hmet1
        clear hg1 hrg1 hB1 hO1 hs1 hl hmet1
        go_wp2_with (fail)
        go_roundw
        case rel => exact ⟨left', cnt1, os ++ [x], A, c, l, rfl, HRG.out, HM1'.out.out, hl', HO1.out, by omega, HB1.out, hsz1⟩
        case measure => rw [HRG.out.left_eq, HL.out]; exact hlt1
      · intro left' w1 cnt1 hwf hfx hmet1 hrg1 hlt1 hg1 hs1 hen
        obtain ⟨hB1, hO1⟩ := hpre.out w1 hg1
        have HB1 := Lib.hid hB1
        have HO1 := Lib.hid hO1
        have HRG := Lib.hid hrg1
        have hsz1 : w.heap.size + 1 ≤ w1.heap.size := by omega
        have hl' : Hid (∀ y, y ∈ l ++ [x] ↔ y ∈ os ++ [x] ∧ f1 y = some true) := fun y => by
          rw [List.mem_append, hl.out y]
          by_cases e : y = x
          · subst e; simp [hfx.out.1]
          · simp [e]
        have HM1' := Lib.hid hmet1
        clear hg1 hrg1 hB1 hO1 hs1 hl hmet1
        go_wp2_with (at_builtin; refine wpList_push elInt rfl _ _ rfl HO1.out rfl _ rfl rfl (one_int _ x) (by unfold maxLen; omega) (by omega) hsz1 ?_; intro A4 c4 w4 hoo4 p4)
        have hne : ∀ k, k ≤ w.heap.size → some k ≠ A.map (·.block) := fun k hk e => by
          cases hA : A with
          | none => rw [hA] at e; cases e
          | some a => rw [hA] at e; have := (own_lt HO1.out a hA).1; simp at e; omega
        have hrg4 := HRG.out.kept p4.grown (hne _ (by omega)) (hne _ (Nat.le_refl _))
        have HB4 := Lib.hid (p4.below HO1.out HB1.out (by omega) HB1.out.size)
        have HO4 := Lib.hid hoo4
        have hll : (l ++ [x]).length = l.length + 1 := by simp
        have hsz4 : w.heap.size + 1 ≤ w4.heap.size := Nat.le_trans hsz1 p4.grown.size
        clear p4 hoo4 hne
        go_roundw
        case rel => exact ⟨left', cnt1, os ++ [x], A4, c4, l ++ [x], by rw [hll], hrg4, HM1'.out.out, hl', by rw [hll, iv_append]; simpa [iv] using HO4.out, by rw [hll]; omega, HB4.out, hsz4⟩
        case measure => rw [hrg4.left_eq, HL.out]; exact hlt1
end Go.Proofs.YtpdnipabaimofaaGreat
