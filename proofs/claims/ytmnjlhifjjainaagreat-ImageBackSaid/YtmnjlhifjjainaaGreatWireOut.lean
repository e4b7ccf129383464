/-
  wire.ReadNumber, ReadText, ReadNumbers.
-/
import Derived.Test.YtmnjlhifjjainaaGreatWireRdrT
namespace Go.Proofs.YtmnjlhifjjainaaGreat
open Go.RowKit

theorem part_num (v : Value) (w : World) : Calls Tryz.prog 67 #[v] w fun e w' => e = .returned (.func (.func 68) #[v] #[]) ∧ w' = w := by
  go_enter Tryz.func67, Tryz.ntmps67
  go_wp2
  go_ret
  exact ⟨rfl, rfl⟩
theorem part_text (v : Value) (w : World) : Calls Tryz.prog 73 #[v] w fun e w' => e = .returned (.func (.func 74) #[v] #[]) ∧ w' = w := by
  go_enter Tryz.func73, Tryz.ntmps73
  go_wp2
  go_ret
  exact ⟨rfl, rfl⟩
theorem part_nums (v : Value) (w : World) : Calls Tryz.prog 70 #[v] w fun e w' => e = .returned (.func (.func 71) #[v] #[]) ∧ w' = w := by
  go_enter Tryz.func70, Tryz.ntmps70
  go_wp2
  go_ret
  exact ⟨rfl, rfl⟩

theorem rdr_new (s : ByteArray) (p : Int) (w : World) : RdrAt (w.alloc (.cells #[.string s, .int .i64 p, .bool false] 137)) w.heap.size s p false := World.alloc_heap_new w _

theorem below_rdr {w w2 : World} {s : ByteArray} {p : Int} (hG : (w.alloc (.cells #[.string s, .int .i64 p, .bool false] 137)).grownBy w2 (some w.heap.size)) : Below w.heap.size w w2 :=
  (((Below.refl _ w).alloc (Nat.le_refl _) _).grown hG (by simp) (fun k e => by cases e; exact Nat.le_refl _))

set_option maxHeartbeats 1000000 in
theorem read_num (s : ByteArray) (p : Int) (w : World) (hs : s.size ≤ 1000000) :
    Calls Tryz.prog 66 #[.string s, .int .i64 p, .func (.func 67) #[] #[]] w fun e w' => e = .returned (numAns (rdAt s p)) ∧ Below w.heap.size w w' := by
  go_enter Tryz.func66, Tryz.ntmps66
  go_wp2_with (fail)
  refine (part_num _ _).mono ?_
  rintro e w1 ⟨rfl, rfl⟩
  go_wp2_with (fail)
  refine (rdrNumber_c _ s p _ (rdr_new s p w) hs).mono ?_
  rintro e w2 hnd
  cases hx : rdAt s p with
  | none =>
    rw [hx] at hnd
    obtain ⟨⟨x, p', rfl, hR⟩, hG⟩ := hnd
    obtain ⟨c0, c1, c2⟩ := hR.cells
    have hB := below_rdr hG
    have HX := Lib.hid hx
    clear hx hG
    go_wp2_with (fail)
    go_ret3
    exact ⟨by rw [HX.out]; rfl, hB⟩
  | some y =>
    obtain ⟨n, q⟩ := y
    rw [hx] at hnd
    obtain ⟨rfl, hR, hG⟩ := hnd
    obtain ⟨c0, c1, c2⟩ := hR.cells
    have hB := below_rdr hG
    have HX := Lib.hid hx
    clear hx hG
    go_wp2_with (fail)
    go_quiet (fail)
    go_wp2_with (fail)
    go_ret3
    exact ⟨by rw [HX.out]; rfl, below_drewN hB _⟩

set_option maxHeartbeats 1000000 in
theorem read_text (s : ByteArray) (p : Int) (w : World) (hs : s.size ≤ 1000000) :
    Calls Tryz.prog 72 #[.string s, .int .i64 p, .func (.func 73) #[] #[]] w fun e w' => e = .returned (textAns (rdText s p)) ∧ Below w.heap.size w w' := by
  go_enter Tryz.func72, Tryz.ntmps72
  go_wp2_with (fail)
  refine (part_text _ _).mono ?_
  rintro e w1 ⟨rfl, rfl⟩
  go_wp2_with (fail)
  refine (rdrText_c _ s p _ (rdr_new s p w) hs).mono ?_
  rintro e w2 hnd
  cases hx : rdText s p with
  | none =>
    rw [hx] at hnd
    obtain ⟨⟨x, p', rfl, hR⟩, hG⟩ := hnd
    obtain ⟨c0, c1, c2⟩ := hR.cells
    have hB := below_rdr hG
    have HX := Lib.hid hx
    clear hx hG
    go_wp2_with (fail)
    go_ret3
    exact ⟨by rw [HX.out]; rfl, hB⟩
  | some y =>
    obtain ⟨n, q⟩ := y
    rw [hx] at hnd
    obtain ⟨rfl, hR, hG⟩ := hnd
    obtain ⟨c0, c1, c2⟩ := hR.cells
    have hB := below_rdr hG
    have HX := Lib.hid hx
    clear hx hG
    go_wp2_with (fail)
    go_quiet (fail)
    go_wp2_with (fail)
    go_ret3
    exact ⟨by rw [HX.out]; rfl, below_drewN hB _⟩

set_option maxHeartbeats 1000000 in
theorem read_nums (s : ByteArray) (p : Int) (w : World) (hs : s.size ≤ 1000000) :
    Calls Tryz.prog 69 #[.string s, .int .i64 p, .func (.func 70) #[] #[]] w fun e w' => (∃ v, e = .returned v ∧ NumsAns w w' v (rdNums s p)) ∧ Below w.heap.size w w' := by
  go_enter Tryz.func69, Tryz.ntmps69
  go_wp2_with (fail)
  refine (part_nums _ _).mono ?_
  rintro e w1 ⟨rfl, rfl⟩
  go_wp2_with (fail)
  refine (rdrNumbers_c _ s p _ (rdr_new s p w) hs).mono ?_
  rintro e w2 hnd
  cases hx : rdNums s p with
  | none =>
    rw [hx] at hnd
    obtain ⟨⟨x, p', rfl, hR⟩, hG⟩ := hnd
    obtain ⟨c0, c1, c2⟩ := hR.cells
    have hB := below_rdr hG
    have HX := Lib.hid hx
    clear hx hG
    go_wp2_with (fail)
    go_ret3
    exact ⟨⟨_, rfl, by rw [HX.out]; rfl⟩, hB⟩
  | some y =>
    obtain ⟨xs, q⟩ := y
    rw [hx] at hnd
    obtain ⟨⟨A, c, rfl, ho⟩, hR, hG⟩ := hnd
    obtain ⟨c0, c1, c2⟩ := hR.cells
    have hB := below_rdr hG
    have HX := Lib.hid hx
    clear hx hG
    go_wp2_with (fail)
    go_quiet (fail)
    go_wp2_with (fail)
    go_ret3
    exact ⟨⟨_, rfl, by rw [HX.out]; exact ⟨A, c, rfl, own_more (show (w2.drewN _).ownsRow _ _ _ _ _ _ from ho) (by simp)⟩⟩, below_drewN hB _⟩

theorem readNumber_c (s : ByteArray) (p : Int) (w : World) (hs : s.size ≤ 1000000) :
    Calls Tryz.prog 50 #[.string s, .int .i64 p] w fun e w' => e = .returned (numAns (rdAt s p)) ∧ Below w.heap.size w w' := by
  go_enter Tryz.func50, Tryz.ntmps50
  go_wp2_with (fail)
  refine (read_num s p w hs).mono ?_
  rintro e w1 ⟨rfl, hB⟩
  cases hx : rdAt s p with
  | none =>
    unfold numAns
    go_wp2_with (fail)
    go_ret3
    exact ⟨by rw [hx]; rfl, hB⟩
  | some y =>
    obtain ⟨n, q⟩ := y
    unfold numAns
    go_wp2_with (fail)
    go_ret3
    exact ⟨by rw [hx]; rfl, hB⟩

theorem readText_c (s : ByteArray) (p : Int) (w : World) (hs : s.size ≤ 1000000) :
    Calls Tryz.prog 54 #[.string s, .int .i64 p] w fun e w' => e = .returned (textAns (rdText s p)) ∧ Below w.heap.size w w' := by
  go_enter Tryz.func54, Tryz.ntmps54
  go_wp2_with (fail)
  refine (read_text s p w hs).mono ?_
  rintro e w1 ⟨rfl, hB⟩
  cases hx : rdText s p with
  | none =>
    unfold textAns
    go_wp2_with (fail)
    go_ret3
    exact ⟨by rw [hx]; rfl, hB⟩
  | some y =>
    obtain ⟨n, q⟩ := y
    unfold textAns
    go_wp2_with (fail)
    go_ret3
    exact ⟨by rw [hx]; rfl, hB⟩

theorem readNumbers_c (s : ByteArray) (p : Int) (w : World) (hs : s.size ≤ 1000000) :
    Calls Tryz.prog 52 #[.string s, .int .i64 p] w fun e w' => (∃ v, e = .returned v ∧ NumsAns w w' v (rdNums s p)) ∧ Below w.heap.size w w' := by
  go_enter Tryz.func52, Tryz.ntmps52
  go_wp2_with (fail)
  refine (read_nums s p w hs).mono ?_
  rintro e w1 ⟨⟨v, rfl, ha⟩, hB⟩
  cases hx : rdNums s p with
  | none =>
    rw [hx] at ha
    obtain rfl : v = .tuple #[.slice none 0 0, .int .i64 0, .bool false] := ha
    go_wp2_with (fail)
    go_ret3
    exact ⟨⟨_, rfl, by rw [hx]; rfl⟩, hB⟩
  | some y =>
    obtain ⟨xs, q⟩ := y
    rw [hx] at ha
    obtain ⟨A, c, rfl, ho⟩ := ha
    go_wp2_with (fail)
    go_ret3
    exact ⟨⟨_, rfl, by rw [hx]; exact ⟨A, c, rfl, ho⟩⟩, hB⟩
end Go.Proofs.YtmnjlhifjjainaaGreat
