/-
  The document's rows of images.
-/
import Derived.Test.YtmnjlhifjjainaaGreatImgGetW
import Derived.Test.YtmnjlhifjjainaaGreatImgPut
import Derived.Test.YtmnjlhifjjainaaGreatImgSame
import Derived.Test.YtmnjlhifjjainaaGreatImgBig
namespace Go.Proofs.YtmnjlhifjjainaaGreat
open Go.RowKit

def exG : Gr := ⟨2, [⟨0, 1⟩], [[], [⟨#[97, 98]⟩]]⟩
theorem exG_is : isG exG := by decide
theorem exG_print : printS exG = ⟨#[119, 103, 2, 1, 1, 0, 0, 1, 2, 97, 98]⟩ := by
  unfold printS
  rw [if_pos exG_is]
  rfl
theorem exG_printE : printE exG = 0 := by unfold printE; rw [if_pos exG_is]
theorem exG_parse : parseO ⟨#[119, 103, 2, 1, 1, 0, 0, 1, 2, 97, 98]⟩ = some exG := parse_back exG_is rfl
theorem ex_bad : parseO ⟨#[119, 103, 1, 1, 1, 0]⟩ = none := by decide
theorem noG_not : ¬ isG noG := by decide
theorem noG_print : printS noG = ⟨#[]⟩ ∧ printE noG = 20 := by unfold printS printE; rw [if_neg noG_not, if_neg noG_not]; exact ⟨rfl, rfl⟩

theorem four_boxes (W : World) (o1 o2 o3 o4 : Obj) :
    (((W.alloc o1).alloc o2).alloc o3).alloc o4 = ((((W.alloc o1).alloc o2).alloc o3).alloc o4) ∧ ((((W.alloc o1).alloc o2).alloc o3).alloc o4).heap[W.heap.size]? = some o1 ∧ ((((W.alloc o1).alloc o2).alloc o3).alloc o4).heap[W.heap.size + 1]? = some o2 ∧
    ((((W.alloc o1).alloc o2).alloc o3).alloc o4).heap[W.heap.size + 1 + 1]? = some o3 ∧ ((((W.alloc o1).alloc o2).alloc o3).alloc o4).heap[W.heap.size + 1 + 1 + 1]? = some o4 ∧ Below W.heap.size W ((((W.alloc o1).alloc o2).alloc o3).alloc o4) := by
  have s1 : (W.alloc o1).heap.size = W.heap.size + 1 := World.size_alloc _ _
  have s2 : ((W.alloc o1).alloc o2).heap.size = W.heap.size + 1 + 1 := by rw [World.size_alloc, s1]
  have s3 : (((W.alloc o1).alloc o2).alloc o3).heap.size = W.heap.size + 1 + 1 + 1 := by rw [World.size_alloc, s2]
  refine ⟨rfl, ?_, ?_, ?_, ?_, (((((Below.refl _ _).alloc (Nat.le_refl _) _).alloc (by omega) _).alloc (by omega) _).alloc (by omega) _)⟩
  · rw [Below.heap_alloc _ _ _ (by omega), Below.heap_alloc _ _ _ (by omega), Below.heap_alloc _ _ _ (by omega)]
    exact Array.getElem?_push_size
  · rw [Below.heap_alloc _ _ _ (by omega), Below.heap_alloc _ _ _ (by omega), ← s1]
    exact Array.getElem?_push_size
  · rw [Below.heap_alloc _ _ _ (by omega), ← s2]
    exact Array.getElem?_push_size
  · rw [← s3]
    exact Array.getElem?_push_size
theorem reads_box {w : World} {b n sz : Nat} {cs : Array Value} {T : TypeId} {xs : List Value} (h : w.heap[b]? = some (.cells cs T (0, 0))) (hx : cs.toList = xs) (hn : xs.length = n * sz) : Reads w w.heap.size sz (some ⟨b, 0, none⟩) n xs := by
  refine ⟨hn, fun _ => ⟨b, 0, rfl, (Array.getElem?_eq_some_iff.1 h).1, fun j u hu => ?_⟩⟩
  rw [Lib.cell_of_heap h, Nat.zero_add]
  rw [← hx] at hu
  simpa using hu

theorem exG_in (w : World) : GAt ((((w.alloc (.cells #[.int .i64 0, .int .i64 1] 38)).alloc (.cells #[.string ⟨#[97, 98]⟩] 9)).alloc (.cells #[.slice none 0 0, .slice (some ⟨w.heap.size + 1, 0, none⟩) 1 1] 35)).alloc (.cells #[.int .i64 2, .slice (some ⟨w.heap.size, 0, none⟩) 1 1, .slice (some ⟨w.heap.size + 1 + 1, 0, none⟩) 2 2] 25)) (w.heap.size + 1 + 1 + 1) 2 (some ⟨w.heap.size, 0, none⟩) 1 1 (some ⟨w.heap.size + 1 + 1, 0, none⟩) 2 2 ∧
    GrIn ((((w.alloc (.cells #[.int .i64 0, .int .i64 1] 38)).alloc (.cells #[.string ⟨#[97, 98]⟩] 9)).alloc (.cells #[.slice none 0 0, .slice (some ⟨w.heap.size + 1, 0, none⟩) 1 1] 35)).alloc (.cells #[.int .i64 2, .slice (some ⟨w.heap.size, 0, none⟩) 1 1, .slice (some ⟨w.heap.size + 1 + 1, 0, none⟩) 2 2] 25)) ((((w.alloc (.cells #[.int .i64 0, .int .i64 1] 38)).alloc (.cells #[.string ⟨#[97, 98]⟩] 9)).alloc (.cells #[.slice none 0 0, .slice (some ⟨w.heap.size + 1, 0, none⟩) 1 1] 35)).alloc (.cells #[.int .i64 2, .slice (some ⟨w.heap.size, 0, none⟩) 1 1, .slice (some ⟨w.heap.size + 1 + 1, 0, none⟩) 2 2] 25)).heap.size exG (some ⟨w.heap.size, 0, none⟩) 1 (some ⟨w.heap.size + 1 + 1, 0, none⟩) 2 [.slice none 0 0, .slice (some ⟨w.heap.size + 1, 0, none⟩) 1 1] ∧
    Below w.heap.size w ((((w.alloc (.cells #[.int .i64 0, .int .i64 1] 38)).alloc (.cells #[.string ⟨#[97, 98]⟩] 9)).alloc (.cells #[.slice none 0 0, .slice (some ⟨w.heap.size + 1, 0, none⟩) 1 1] 35)).alloc (.cells #[.int .i64 2, .slice (some ⟨w.heap.size, 0, none⟩) 1 1, .slice (some ⟨w.heap.size + 1 + 1, 0, none⟩) 2 2] 25)) := by
  obtain ⟨-, h1, h2, h3, h4, hB⟩ := four_boxes w (.cells #[.int .i64 0, .int .i64 1] 38) (.cells #[.string ⟨#[97, 98]⟩] 9) (.cells #[.slice none 0 0, .slice (some ⟨w.heap.size + 1, 0, none⟩) 1 1] 35) (.cells #[.int .i64 2, .slice (some ⟨w.heap.size, 0, none⟩) 1 1, .slice (some ⟨w.heap.size + 1 + 1, 0, none⟩) 2 2] 25)
  refine ⟨h4, ⟨reads_box h1 rfl rfl, reads_box h3 rfl rfl, ⟨rfl, fun i v r hv hr => ?_⟩, by simp [maxLen], by simp [maxLen]⟩, hB⟩
  match i, hv, hr with
  | 0, hv, hr =>
    simp at hv
    simp [wv, exG, sv] at hr
    subst hv hr
    exact ⟨none, 0, 0, rfl, by simp [maxLen], Reads.none_⟩
  | 1, hv, hr =>
    simp at hv
    simp [wv, exG] at hr
    subst hv hr
    exact ⟨_, 1, 1, rfl, by simp [maxLen], reads_box h2 rfl rfl⟩
  | i + 2, hv, hr => simp at hv

set_option maxRecDepth 100000 in
set_option maxHeartbeats 4000000 in
theorem images_c (w : World) : Calls Tryz.prog 8 #[] w fun e w' => e = .returned (.bool true) ∧ Below w.heap.size w w' := by
  obtain ⟨hg, hi, hB⟩ := exG_in w
  have hsz : Hid (sized exG) := fun l hl x hx => by
    simp [exG] at hl
    rcases hl with rfl | rfl
    · simp at hx
    · simp at hx
      subst hx
      decide
  have HG := Lib.hid hg
  have HI := Lib.hid hi
  have HB := Lib.hid hB
  clear hg hi hB
  go_enter Tryz.func8, Tryz.ntmps8
  go_wp2_with (fail)
  generalize ((((w.alloc (.cells #[.int .i64 0, .int .i64 1] 38)).alloc (.cells #[.string ⟨#[97, 98]⟩] 9)).alloc (.cells #[.slice none 0 0, .slice (some ⟨w.heap.size + 1, 0, none⟩) 1 1] 35)).alloc (.cells #[.int .i64 2, .slice (some ⟨w.heap.size, 0, none⟩) 1 1, .slice (some ⟨w.heap.size + 1 + 1, 0, none⟩) 2 2] 25)) = W1 at HG HI HB ⊢
  refine (show Calls Tryz.prog 6 #[.agg #[.int .i64 2, .slice (some ⟨w.heap.size, 0, none⟩) 1 1, .slice (some ⟨w.heap.size + 1 + 1, 0, none⟩) 2 2]] _ _ from print_c exG _ _ 1 2 1 2 _ _ HI.out hsz).mono ?_
  rintro e w2 ⟨rfl, hB2⟩
  rw [exG_print, exG_printE]
  have HG2 := Lib.hid (HG.out.below hB2 HG.out.lt)
  have HI2 := Lib.hid (HI.out.new hB2)
  have HB2 := Lib.hid (HB.out.trans (hB2.mono HB.out.size))
  clear hB2 HG HI HB
  go_wp2_with (fail)
  refine (parse_c ⟨#[119, 103, 2, 1, 1, 0, 0, 1, 2, 97, 98]⟩ _ (by decide)).mono ?_
  rintro e w3 ⟨A1, n1, c1, A2, n2, c2, us, rfl, hi3, hB3⟩
  rw [(parse_some exG_parse).1] at hi3 ⊢
  rw [(parse_some exG_parse).2]
  have hB4 := below_one w3 (.cells #[.int .i64 2, .slice A1 n1 c1, .slice A2 n2 c2] 25)
  have HG4 := Lib.hid ((HG2.out.below hB3 HG2.out.lt).below hB4 (Nat.lt_of_lt_of_le HG2.out.lt hB3.size))
  have HI4 := Lib.hid ((HI2.out.new hB3).new hB4)
  have HJ4 := Lib.hid (hi3.new hB4)
  have HH4 := Lib.hid (GAt.new w3 2 A1 n1 c1 A2 n2 c2)
  have HB4 := Lib.hid ((HB2.out.trans (hB3.mono HB2.out.size)).trans (hB4.mono (Nat.le_trans HB2.out.size hB3.size)))
  clear hB4 hB3 hi3 HG2 HI2 HB2
  have hexn : exG.n = 2 := rfl
  rw [hexn]
  go_wp2_with (fail)
  generalize hw4 : w3.alloc (.cells #[.int .i64 2, .slice A1 n1 c1, .slice A2 n2 c2] 25) = w4 at HG4 HI4 HJ4 HH4 HB4 ⊢
  obtain ⟨b4, hb4⟩ : ∃ b4, w3.heap.size = b4 := ⟨_, rfl⟩
  rw [hb4] at HH4 ⊢
  clear hw4 hb4
  refine (parse_c ⟨#[119, 103, 1, 1, 1, 0]⟩ _ (by decide)).mono ?_
  rintro e w5 ⟨A3, n3, c3, A4, n4, c4, us2, rfl, hi5, hB5⟩
  rw [(parse_none ex_bad).1, (parse_none ex_bad).2]
  have hnn : noG.n = 0 := rfl
  rw [hnn]
  have hB6 := below_one w5 (.cells #[.int .i64 0, .slice A3 n3 c3, .slice A4 n4 c4] 25)
  have hB56 := hB5.trans (hB6.mono hB5.size)
  have HG6 := Lib.hid (HG4.out.below hB56 HG4.out.lt)
  have HI6 := Lib.hid (HI4.out.new hB56)
  have HJ6 := Lib.hid (HJ4.out.new hB56)
  have HH6 := Lib.hid (HH4.out.below hB56 HH4.out.lt)
  have HB6 := Lib.hid (HB4.out.trans (hB56.mono HB4.out.size))
  clear hB56 hB5 hB6 hi5 HG4 HI4 HJ4 HH4 HB4
  go_wp2_with (fail)
  generalize w5.alloc (.cells #[.int .i64 0, .slice A3 n3 c3, .slice A4 n4 c4] 25) = w6 at HG6 HI6 HJ6 HH6 HB6 ⊢
  refine (show Calls Tryz.prog 6 #[.agg #[.int .i64 0, .slice none 0 0, .slice none 0 0]] _ _ from print_c noG none none 0 0 0 0 [] _ (grIn_no _ _) (fun l hl => by simp [noG] at hl)).mono ?_
  rintro e w7 ⟨rfl, hB7⟩
  rw [noG_print.1, noG_print.2]
  have hg7 := HG6.out.below hB7 HG6.out.lt
  have HI7 := Lib.hid (HI6.out.new hB7)
  have HJ7 := Lib.hid (HJ6.out.new hB7)
  have hh7 := HH6.out.below hB7 HH6.out.lt
  have HB7 := Lib.hid (HB6.out.trans (hB7.mono HB6.out.size))
  clear hB7 HG6 HI6 HJ6 HH6 HB6
  obtain ⟨x0, x1, x2⟩ := hg7.cells
  obtain ⟨y0, y1, y2⟩ := hh7.cells
  clear hg7 hh7
  go_wp2_with (fail)
  refine (show Calls Tryz.prog 9 #[.agg #[.int .i64 2, .slice A1 n1 c1, .slice A2 n2 c2], .agg #[.int .i64 2, .slice (some ⟨w.heap.size, 0, none⟩) 1 1, .slice (some ⟨w.heap.size + 1 + 1, 0, none⟩) 2 2]] _ _ from same_c exG exG A1 A2 _ _ n1 n2 c1 c2 1 2 1 2 us _ _ HJ7.out HI7.out).mono ?_
  rintro e w8 ⟨rfl, hB8⟩
  rw [decide_eq_true rfl]
  have HB8 := Lib.hid (HB7.out.trans (hB8.mono HB7.out.size))
  clear hB8 x0 x1 x2 y0 y1 y2
  go_wp2_with (fail)
  go_ret
  exact ⟨rfl, HB8.out⟩
end Go.Proofs.YtmnjlhifjjainaaGreat
