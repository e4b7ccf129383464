/-
  wire.ReadNumber.
-/
import Derived.Test.YtmnjlhifjjainaaNRdr
namespace Go.Proofs.Ytmnjlhifjjainaa
open Go.RowKit

theorem part_num (v : Value) (w : World) : Calls Try.prog 95 #[v] w fun e w' => e = .returned (.func (.func 96) #[v] #[]) ∧ w' = w := by
  go_enter Try.func95, Try.ntmps95
  go_wp2
  go_ret
  exact ⟨rfl, rfl⟩
theorem rdr_new (s : ByteArray) (p : Int) (w : World) : RdrAt (w.alloc (.cells #[.string s, .int .i64 p, .bool false] 159)) w.heap.size s p false := World.alloc_heap_new w _

theorem below_rdr {w w2 : World} {s : ByteArray} {p : Int} (hG : (w.alloc (.cells #[.string s, .int .i64 p, .bool false] 159)).grownBy w2 (some w.heap.size)) : Below w.heap.size w w2 :=
  (((Below.refl _ w).alloc (Nat.le_refl _) _).grown hG (by simp) (fun k e => by cases e; exact Nat.le_refl _))

set_option maxHeartbeats 1000000 in
theorem read_num (s : ByteArray) (p : Int) (w : World) (hs : s.size ≤ 1000000) :
    Calls Try.prog 94 #[.string s, .int .i64 p, .func (.func 95) #[] #[]] w fun e w' => e = .returned (numAns (rdAt s p)) ∧ Below w.heap.size w w' := by
  go_enter Try.func94, Try.ntmps94
  go_wp2_with (fail)
  refine (part_num _ _).mono ?_
  rintro e w1 ⟨rfl, rfl⟩
  go_wp2_with (fail)
  refine (rdrNumber_c _ s p _ (rdr_new s p w) hs).mono ?_
  rintro e w2 hnd
  cases hx : rdAt s p with
  | none =>
    rw [hx] at hnd
    obtain ⟨⟨x, p', rfl, hR⟩, hG⟩ := hnd
    obtain ⟨c0, c1, c2⟩ := hR.cells
    have hB := below_rdr hG
    have HX := Lib.hid hx
    clear hx hG
    go_wp2_with (fail)
    go_ret3
    exact ⟨by rw [HX.out]; rfl, hB⟩
  | some y =>
    obtain ⟨n, q⟩ := y
    rw [hx] at hnd
    obtain ⟨rfl, hR, hG⟩ := hnd
    obtain ⟨c0, c1, c2⟩ := hR.cells
    have hB := below_rdr hG
    have HX := Lib.hid hx
    clear hx hG
    go_wp2_with (fail)
    go_quiet (fail)
    go_wp2_with (fail)
    go_ret3
    exact ⟨by rw [HX.out]; rfl, below_drewN hB _⟩

theorem readNumber_c (s : ByteArray) (p : Int) (w : World) (hs : s.size ≤ 1000000) :
    Calls Try.prog 56 #[.string s, .int .i64 p] w fun e w' => e = .returned (numAns (rdAt s p)) ∧ Below w.heap.size w w' := by
  go_enter Try.func56, Try.ntmps56
  go_wp2_with (fail)
  refine (read_num s p w hs).mono ?_
  rintro e w1 ⟨rfl, hB⟩
  cases hx : rdAt s p with
  | none =>
    unfold numAns
    go_wp2_with (fail)
    go_ret3
    exact ⟨by rw [hx]; rfl, hB⟩
  | some y =>
    obtain ⟨n, q⟩ := y
    unfold numAns
    go_wp2_with (fail)
    go_ret3
    exact ⟨by rw [hx]; rfl, hB⟩

theorem readNumberT (s : ByteArray) (p : Int) (w : World) (hs : s.size ≤ 1000000) :
    Calls Try.prog 56 #[.string s, .int .i64 p] w fun e w' => e = .returned (.tuple #[.int .i64 (anNum (rdAt s p)), .int .i64 (anPlace (rdAt s p)), .bool (rdAt s p).isSome]) ∧ Below w.heap.size w w' := by
  rw [← numAns_all]; exact readNumber_c s p w hs
end Go.Proofs.Ytmnjlhifjjainaa
