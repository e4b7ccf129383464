/-
  The law's own search: a word is found.
-/
import Derived.Test.YtpdnipabaimofaaGreatJ32
import Derived.Test.YtpdnipabaimofaaGreatJ41
namespace Go.Proofs.YtpdnipabaimofaaGreat
open Go Go.RowKit Go.Shelf Go.Lib

def wA : ByteArray := ⟨#[97]⟩
theorem dist01 : distD rw01 0 0 1 1 := by
  refine ⟨⟨0, rfl, ?_⟩, fun j hj => ?_⟩
  · unfold edgeD
    decide
  · obtain rfl : j = 0 := by omega
    intro h
    exact absurd (show (1 : Int) = 0 from h) (by decide)
theorem sought_plain {A : Option Addr} {c t : Nat} {S : List Msg} {places : List Int} {o : List Hit} (hp : ∀ x, x ∈ places ↔ inAll [⟨wA, A, 1, c, [1]⟩] [wA] x) (hf : FirstK 1 (hitsL S places) o) (hr : Ran rw01 3 9 0 0 0 t S []) : o = [⟨1, 1⟩] := by
  have hpl : ∀ x, x ∈ places ↔ x = 1 := fun x => by
    rw [hp x]
    unfold inAll findP
    simp
  have hin : (⟨1, 1⟩ : Hit) ∈ hitsL S places := mem_hits.2 ⟨⟨0, 0, 1, 1⟩, (ran_all hr _).2 ⟨rfl, rfl, by decide, by decide, dist01⟩, rfl, (hpl 1).2 rfl, rfl⟩
  have hall : ∀ z ∈ hitsL S places, z = ⟨1, 1⟩ := fun z hz => by
    obtain ⟨x, hx, h1, h2, rfl⟩ := mem_hits.1 hz
    obtain ⟨-, -, h3, -, hD⟩ := (ran_all hr x).1 hx
    have hv := (hpl _).1 h2
    rw [hv] at hD
    have := dist_uniq hD dist01
    rw [hv, show x.d = 1 by omega]
  obtain ⟨⟨h, -⟩ | ⟨m, os, rfl, hm, -⟩, hl⟩ := hf
  · rw [h] at hin
    simp at hin
  · have : os = [] := List.length_eq_zero_iff.1 (by simp at hl; exact List.length_eq_zero_iff.2 hl)
    rw [this, hall m hm]
theorem wA_word : isWord wA := by decide
theorem reads_heap {W : World} {B size b n : Nat} {cs : Array Value} {ty : Nat} {fr : Nat × Nat} (h : W.heap[b]? = some (.cells cs ty fr)) (hb : b < B) (hn : cs.size = n * size) : Reads W B size (some ⟨b, 0, none⟩) n cs.toList := by
  refine ⟨by simpa using hn, fun _ => ⟨b, 0, rfl, hb, fun j u hu => ?_⟩⟩
  rw [Lib.cell_of_heap h]
  simpa using hu
theorem lit_in (w2 : World) (o0 : Obj) (W3 : World) (h3 : W3 = (((w2.alloc o0).alloc (.cells #[.string wA] 9)).alloc (.cells #[.int .i64 1] 3)).alloc (.cells #[.string wA, .slice (some ⟨w2.heap.size + 1 + 1, 0, none⟩) 1 1] 33)) :
    Reads W3 W3.heap.size 1 (some ⟨w2.heap.size + 1, 0, none⟩) 1 (sv [wA]) ∧ PsIn W3 W3.heap.size (some ⟨w2.heap.size + 1 + 1 + 1, 0, none⟩) 1 [⟨wA, some ⟨w2.heap.size + 1 + 1, 0, none⟩, 1, 1, [1]⟩] ∧ Below w2.heap.size w2 W3 := by
  have hs : W3.heap.size = w2.heap.size + 4 := by rw [h3]; simp
  have e1 : W3.heap[w2.heap.size + 1]? = some (.cells #[.string wA] 9 (0, 0)) := by
    rw [h3, Below.heap_alloc _ _ _ (by simp), Below.heap_alloc _ _ _ (by simp)]
    have := (w2.alloc o0).alloc_heap_new (.cells #[.string wA] 9)
    rwa [World.size_alloc] at this
  have e2 : W3.heap[w2.heap.size + 1 + 1]? = some (.cells #[.int .i64 1] 3 (0, 0)) := by
    rw [h3, Below.heap_alloc _ _ _ (by simp)]
    have := ((w2.alloc o0).alloc (.cells #[.string wA] 9)).alloc_heap_new (.cells #[.int .i64 1] 3)
    rwa [World.size_alloc, World.size_alloc] at this
  have e3 : W3.heap[w2.heap.size + 1 + 1 + 1]? = some (.cells #[.string wA, .slice (some ⟨w2.heap.size + 1 + 1, 0, none⟩) 1 1] 33 (0, 0)) := by
    have := (((w2.alloc o0).alloc (.cells #[.string wA] 9)).alloc (.cells #[.int .i64 1] 3)).alloc_heap_new (.cells #[.string wA, .slice (some ⟨w2.heap.size + 1 + 1, 0, none⟩) 1 1] 33)
    rw [← h3] at this
    rwa [World.size_alloc, World.size_alloc, World.size_alloc] at this
  have r1 := reads_heap (B := W3.heap.size) (size := 1) (n := 1) e1 (by omega) rfl
  have r2 := reads_heap (B := W3.heap.size) (size := 1) (n := 1) e2 (by omega) rfl
  have r3 := reads_heap (B := W3.heap.size) (size := 2) (n := 1) e3 (by omega) rfl
  refine ⟨r1, ⟨r3, fun p hp => ?_⟩, ?_⟩
  · rw [List.mem_singleton.1 hp]
    exact ⟨r2, by show 1 ≤ maxLen; unfold maxLen; omega, fun x hx => by rw [List.mem_singleton.1 hx]; unfold wfI; decide⟩
  · rw [h3]
    exact ((((Below.refl _ _).alloc (Nat.le_refl _) _).alloc (by simp) _).alloc (by simp; omega) _).alloc (by simp; omega) _

set_option maxRecDepth 100000 in
set_option maxHeartbeats 4000000 in
theorem sought_c (w : World) : Calls Tryz.prog 6 #[] w fun e w' => e = .returned (.bool true) ∧ Below w.heap.size w w' := by
  obtain ⟨i0, hi0, hz0, hz1, hz2⟩ := info_parts infoTexts
  go_enter Tryz.func6, Tryz.ntmps6
  go_wp2_with (at_make; refine wpList_make_full _ rfl _ _ 50 rfl (w.heap.size + 1) 22 i0 _ 1 Tryz.underlying50 hi0 hz0 hz1 _ _ _ _ 2 rfl rfl rfl rfl (by rw [hz2]; omega) (by unfold maxLen; omega) (by simp) ?_; intro w1 hown1 hg1)
  have hown : w1.ownsRow (w.heap.size + 1) 22 1 (.slice (some ⟨w.heap.size + 1, 0, none⟩) 2 2) 2 [.slice none 0 0, .slice none 0 0] := by
    have e : (madeCells (Value.slice none 0 0).cells (2 * 1)).toList = [.slice none 0 0, .slice none 0 0] := by kernel_rfl
    rw [← e]; simpa using hown1
  have hB1 : Below (w.heap.size + 1) (w.alloc (.cells #[.int .i64 0, .int .i64 1] 48)) w1 := (Below.refl _ _).grown hg1 (by simp) (fun _ h => by cases h)
  have HG := Lib.hid (gr01_made hown hB1)
  have HB1 := Lib.hid ((below_one w (.cells #[.int .i64 0, .int .i64 1] 48)).trans (hB1.mono (Nat.le_succ _)))
  clear hown1 hg1 hown hB1
  refine (make_c _ _ _ _ _ w1 HG.out).mono ?_
  rintro e w2 ⟨a, har, he, hrw, hB2⟩
  unfold rwVal at he
  subst he
  have HB2 := Lib.hid (HB1.out.trans (hB2.mono HB1.out.size))
  have HAR := Lib.hid har
  have HRW := Lib.hid hrw
  clear hB2 har hrw HG HB1
  go_wp2_with (fail)
  obtain ⟨W3, h3⟩ : ∃ W3, W3 = (((w2.alloc (.cells #[.slice a.A1 a.n1 a.c1, .slice a.A2 a.n2 a.c2, .slice a.A3 a.n3 a.c3, .slice a.A4 a.n4 a.c4] 27)).alloc (.cells #[.string wA] 9)).alloc (.cells #[.int .i64 1] 3)).alloc (.cells #[.string wA, .slice (some ⟨w2.heap.size + 1 + 1, 0, none⟩) 1 1] 33) := ⟨_, rfl⟩
  obtain ⟨l1, l2, l3⟩ := lit_in w2 _ W3 h3
  have HB3 := Lib.hid (HB2.out.trans (l3.mono HB2.out.size))
  have hrun := runWords9_c (q := ⟨3, 0, 0, some ⟨w2.heap.size + 1, 0, none⟩, 1, 1, 9, 1⟩) (a := a) (Al := some ⟨w2.heap.size + 1 + 1 + 1, 0, none⟩) (nl := 1) (cl := 1) (k := 2) (Ap := none) (np := 0) (cp := 0) (ps := []) (L := [⟨wA, some ⟨w2.heap.size + 1 + 1, 0, none⟩, 1, 1, [1]⟩]) (ws := [wA]) (w := W3) rfl l2 (by omega) (fun p hp => by rw [List.mem_singleton.1 hp]; show 1 ≤ 1000; omega) l1 (fun s hs => by rw [List.mem_singleton.1 hs]; decide) (fun s hs => by rw [List.mem_singleton.1 hs]; exact wA_word) ⟨by show 1 ≤ 1; omega, by show 1 ≤ 8; omega⟩ (by show 1 ≤ 1; omega) ((HRW.out.below l3).more l3.size) (by rw [HAR.out]; exact rw01_ok) (by rw [HAR.out]; decide) (by rw [HAR.out]; exact ⟨by show (0 : Int) ≤ 0; omega, by show (0 : Int) < ((2 : Nat) : Int); omega⟩) ⟨by show (0 : Int) ≤ 9; omega, by show (9 : Int) ≤ 200; omega⟩ ⟨by show (1 : Int) ≤ 1; omega, by show (1 : Int) ≤ 100; omega⟩ Reads.none_ (by unfold maxLen; omega) ⟨by omega, by omega⟩
  clear l1 l2 l3
  refine Calls.mono (by rw [h3] at hrun; exact hrun) ?_
  rintro e w4 ⟨A, n, c, o, places, S, m, t, rfl, -, hp, hf, ho, hran, hB4⟩
  rw [HAR.out] at hran
  have ho1 := sought_plain hp hf hran
  subst ho1
  rw [← h3] at ho hB4
  have hr := own_reads ho
  have hn : n = 1 := by have := hr.1; change 2 = n * 2 at this; omega
  subst hn
  have HB4 := Lib.hid (HB3.out.trans (hB4.mono HB3.out.size))
  obtain ⟨b, o, rfl, hb, hc⟩ := hr.2 (by omega)
  have c0 : (w4.alloc (.cells #[.bool true, .int .i64 0, .slice (some ⟨b, o, none⟩) 1 c] 36)).cell? ⟨b, o, none⟩ = some (.int .i64 1) := (World.cell?_of_block (Below.heap_alloc _ _ _ hb)).trans (hc 0 _ rfl)
  have c1 : (w4.alloc (.cells #[.bool true, .int .i64 0, .slice (some ⟨b, o, none⟩) 1 c] 36)).cell? ⟨b, o + 1, none⟩ = some (.int .i64 1) := (World.cell?_of_block (Below.heap_alloc _ _ _ hb)).trans (hc 1 _ rfl)
  have HB5 := Lib.hid (HB4.out.trans ((below_one w4 (.cells #[.bool true, .int .i64 0, .slice (some ⟨b, o, none⟩) 1 c] 36)).mono HB4.out.size))
  clear hr hc ho hB4 hf hran hp hrun h3 hb
  dsimp only
  go_wp2_with (fail)
  go_ret
  exact ⟨rfl, HB5.out⟩
end Go.Proofs.YtpdnipabaimofaaGreat
