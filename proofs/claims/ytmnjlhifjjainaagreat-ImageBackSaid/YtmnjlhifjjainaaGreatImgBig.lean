/-
  Is a graph more than is looked at; are two the same.
-/
import Derived.Test.YtmnjlhifjjainaaGreatImgIs
namespace Go.Proofs.YtmnjlhifjjainaaGreat
open Go.RowKit

def okW (l : List ByteArray) : Prop := l.length ≤ 20 ∧ ∀ w ∈ l, w.size ≤ 50
/-- A graph that is looked at. -/
def smallG (g : Gr) : Prop := g.ws.length ≤ 250 ∧ g.es.length ≤ 2100 ∧ ∀ l ∈ g.ws, okW l
theorem small_sized {g : Gr} (h : smallG g) : sized g := fun l hl x hx => by have := (h.2.2 l hl).2 x hx; omega

def BigDone (w w' : World) (g : Gr) (e : Ending) : Prop := ∃ b : Bool, e = .returned (.bool b) ∧ (b = false → smallG g) ∧ Below w.heap.size w w'
theorem big_any {w w' : World} {g : Gr} {b : Bool} (h : b = false → smallG g) (hB : Below w.heap.size w w') : BigDone w w' g (.returned (.bool b)) := ⟨b, rfl, h, hB⟩

set_option maxRecDepth 100000 in
set_option maxHeartbeats 4000000 in
theorem big_c (g : Gr) (A1 A2 : Option Addr) (n1 n2 c1 c2 : Nat) (vs : List Value) (w : World) (h : GrIn w w.heap.size g A1 n1 A2 n2 vs) :
    Calls Tryz.prog 4 #[.agg #[.int .i64 g.n, .slice A1 n1 c1, .slice A2 n2 c2]] w fun e w' => BigDone w w' g e := by
  have hm1 := h.m1
  have hm2 := h.m2
  unfold maxLen at hm1 hm2
  have L1 := Lib.hid h.len1
  have L2 := Lib.hid h.len2
  have HX := Lib.hid (boxed_new h c1 c2)
  clear h
  by_cases h250 : n2 ≤ 250
  rotate_left
  · obtain ⟨q0, q1, q2⟩ := HX.out.box.cells
    go_enter Tryz.func4, Tryz.ntmps4
    go_wp2_with (fail)
    go_loopw [3] (fun i wr => ∃ k : Nat, k ≤ n2 ∧ i = .int .i64 k ∧ Boxed w w.heap.size g A1 n1 c1 A2 n2 c2 vs wr) (fun i _ => n2 - (intOf i).toNat)
    case atStart => exact ⟨0, Nat.zero_le _, rfl, HX.out⟩
    case round =>
      clear HX q0 q1 q2
      obtain ⟨k, hk, rfl, hx⟩ := hrel
      obtain ⟨q0, q1, q2⟩ := hx.box.cells
      have HX := Lib.hid hx
      clear hx
      by_cases hlt : k < n2
      · go_wp2_with (fail)
        go_ret
        exact big_any (fun h => by first | (cases h; done) | (simp at h; omega)) HX.out.bel
      · go_wp2_with (fail)
        go_ret
        exact big_any (fun h => by first | (cases h; done) | (simp at h; omega)) HX.out.bel
  · go_enter Tryz.func4, Tryz.ntmps4
    go_wp2_with (fail)
    go_loopw [3] (fun i wr => ∃ k : Nat, k ≤ n2 ∧ i = .int .i64 k ∧ Hid (∀ d ∈ g.ws.take k, okW d) ∧ Boxed w w.heap.size g A1 n1 c1 A2 n2 c2 vs wr) (fun i _ => n2 - (intOf i).toNat)
    case atStart => exact ⟨0, Nat.zero_le _, rfl, fun c hc => by simp at hc, HX.out⟩
    case round =>
      clear HX
      obtain ⟨k, hk, rfl, hl, hx⟩ := hrel
      obtain ⟨q0, q1, q2⟩ := hx.box.cells
      by_cases hlt : k < n2
      · obtain ⟨A, n, c, l, hvs, hxl⟩ := hx.gr.row_is hlt
        have HX := Lib.hid hx
        clear hx
        go_wp2_with (fail)
        clear q0 q1 q2
        go_loopw [4] (fun i wr => ∃ m : Nat, m ≤ n ∧ i = .int .i64 m ∧ Hid (∀ d ∈ l.take m, d.size ≤ 50) ∧ Boxed w w.heap.size g A1 n1 c1 A2 n2 c2 vs wr) (fun i _ => n - (intOf i).toNat)
        case atStart => exact ⟨0, Nat.zero_le _, rfl, fun c hc => by simp at hc, HX.out⟩
        case round =>
          clear HX
          obtain ⟨m, hm, rfl, hlw, hx⟩ := hrel
          obtain ⟨q0, q1, q2⟩ := hx.box.cells
          obtain ⟨b2, o2, rfl, d0, hn, hr⟩ := hx.gr.row_of hvs.out hxl.out
          unfold maxLen at hn
          have hln := Lib.hid hr.str_len
          have HX := Lib.hid hx
          clear hx
          by_cases h20 : n ≤ 20
          · by_cases hmn : m < n
            · obtain ⟨b3, o3, s, rfl, hxs, d3⟩ := hr.str_at hmn
              clear hr
              by_cases h50 : s.size ≤ 50
              · have H := Lib.hid (all_more hlw.out hxs.out h50)
                have h50' : (s.size : Int) ≤ 50 := by omega
                go_wp2_with (fail)
                go_roundw
                case rel => exact ⟨m + 1, by omega, by go_num, H.out, HX.out⟩
                case measure => simp [intOf]; omega
              · have h50' : ¬ (s.size : Int) ≤ 50 := by omega
                go_wp2_with (fail)
                go_ret
                exact big_any (fun h => by first | (cases h; done) | (simp at h; omega)) HX.out.bel
            · obtain rfl : m = n := by omega
              have HW : Hid (okW l) := ⟨by rw [hln.out]; exact h20, all_full hlw.out (by rw [hln.out]; exact Nat.le_refl _)⟩
              have H := Lib.hid (all_more hl.out hxl.out HW.out)
              clear hr
              go_wp2_with (fail)
              go_roundw
              case rel => exact ⟨k + 1, by omega, by go_num, H.out, HX.out⟩
              case measure => simp [intOf]; omega
          · clear hr
            by_cases hmn : m < n
            · go_wp2_with (fail)
              go_ret
              exact big_any (fun h => by first | (cases h; done) | (simp at h; omega)) HX.out.bel
            · go_wp2_with (fail)
              go_ret
              exact big_any (fun h => by first | (cases h; done) | (simp at h; omega)) HX.out.bel
      · obtain rfl : k = n2 := by omega
        have HF : Hid (∀ d ∈ g.ws, okW d) := all_full hl.out (by rw [L2.out]; exact Nat.le_refl _)
        have HX := Lib.hid hx
        clear hx
        by_cases h1 : n1 ≤ 60
        · have HS : Hid (smallG g) := ⟨by rw [L2.out]; exact h250, by rw [L1.out]; omega, HF.out⟩
          go_wp2_with (fail)
          go_ret
          exact big_any (fun _ => HS.out) HX.out.bel
        · by_cases h2 : n1 ≤ 2000
          · go_wp2_with (fail)
            go_ret
            exact big_any (fun h => by first | (cases h; done) | (simp at h; omega)) HX.out.bel
          · by_cases h3 : n1 ≤ 2100
            · have HS : Hid (smallG g) := ⟨by rw [L2.out]; exact h250, by rw [L1.out]; omega, HF.out⟩
              go_wp2_with (fail)
              go_ret
              exact big_any (fun _ => HS.out) HX.out.bel
            · go_wp2_with (fail)
              go_ret
              exact big_any (fun h => by first | (cases h; done) | (simp at h; omega)) HX.out.bel
end Go.Proofs.YtmnjlhifjjainaaGreat
