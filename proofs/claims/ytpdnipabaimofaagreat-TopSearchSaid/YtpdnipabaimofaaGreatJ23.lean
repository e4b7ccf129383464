/-
  prog.least: the walk.
  prog.meet: the walk.
-/
import Derived.Test.YtpdnipabaimofaaGreatJ01
import Derived.Test.YtpdnipabaimofaaGreatJ06
import Derived.Test.YtpdnipabaimofaaGreatJ22
namespace Go.Proofs.YtpdnipabaimofaaGreat
open Go.RowKit
open Go.Maps (Keyed IsMap)

/-- Each place's least state of a direction. -/
def LeastF (S : List Msg) (dir : Int) (f : Int → Option Int) : Prop :=
  ∀ v, wfI v → (∀ d, f v = some d → (∃ x ∈ S, x.dir = dir ∧ x.v = v ∧ x.d = d) ∧ ∀ x ∈ S, x.dir = dir → x.v = v → d ≤ x.d) ∧ (f v = none → ∀ x ∈ S, x.dir = dir → x.v ≠ v)
theorem leastF_nil (dir : Int) : LeastF [] dir fun _ => none := fun v _ => ⟨fun d h => by simp at h, fun _ x hx => by simp at hx⟩
theorem leastF_same {S : List Msg} {dir : Int} {f : Int → Option Int} {x : Msg} (h : LeastF S dir f) (_ : wfI x.v) (hx : x.dir ≠ dir ∨ ∃ d, f x.v = some d ∧ d ≤ x.d) : LeastF (S ++ [x]) dir f := fun v hv => by
  refine ⟨fun d hd => ⟨?_, fun y hy hyd hyv => ?_⟩, fun hd y hy hyd hyv => ?_⟩
  · obtain ⟨y, hy, h2⟩ := ((h v hv).1 d hd).1
    exact ⟨y, List.mem_append_left _ hy, h2⟩
  · rcases List.mem_append.1 hy with c | c
    · exact ((h v hv).1 d hd).2 y c hyd hyv
    · rw [List.mem_singleton.1 c] at hyd hyv ⊢
      rcases hx with hx | ⟨d', h1, h2⟩
      · exact absurd hyd hx
      · rw [hyv, hd] at h1
        cases h1
        exact h2
  · rcases List.mem_append.1 hy with c | c
    · exact (h v hv).2 hd y c hyd hyv
    · rw [List.mem_singleton.1 c] at hyd hyv
      rcases hx with hx | ⟨d', h1, h2⟩
      · exact hx hyd
      · rw [hyv, hd] at h1; cases h1
theorem leastF_put {S : List Msg} {dir : Int} {f : Int → Option Int} {x : Msg} (h : LeastF S dir f) (hw : wfI x.v) (hd : x.dir = dir) (hx : ∀ d, f x.v = some d → x.d < d) : LeastF (S ++ [x]) dir (fun m => if m = x.v then some x.d else f m) := fun v hv => by
  by_cases e : v = x.v
  · subst e
    simp only [if_true]
    refine ⟨fun d hd' => ?_, fun hn => by cases hn⟩
    cases hd'
    refine ⟨⟨x, by simp, hd, rfl, rfl⟩, fun y hy hyd hyv => ?_⟩
    rcases List.mem_append.1 hy with c | c
    · cases hf : f x.v with
      | none => exact absurd hyv ((h x.v hw).2 hf y c hyd)
      | some d' =>
        have := ((h x.v hw).1 d' hf).2 y c hyd hyv
        have := hx d' hf
        omega
    · rw [List.mem_singleton.1 c]; exact Int.le_refl _
  · simp only [if_neg e]
    refine ⟨fun d hd' => ⟨?_, fun y hy hyd hyv => ?_⟩, fun hn y hy hyd hyv => ?_⟩
    · obtain ⟨y, hy, h2⟩ := ((h v hv).1 d hd').1
      exact ⟨y, List.mem_append_left _ hy, h2⟩
    · rcases List.mem_append.1 hy with c | c
      · exact ((h v hv).1 d hd').2 y c hyd hyv
      · rw [List.mem_singleton.1 c] at hyv; exact absurd hyv.symm e
    · rcases List.mem_append.1 hy with c | c
      · exact (h v hv).2 hn y c hyd hyv
      · rw [List.mem_singleton.1 c] at hyv; exact absurd hyv.symm e

/-- A map from places to numbers. -/
def LeastV (base N : Nat) (s : Value) (S : List Msg) (dir : Int) (W : World) : Prop :=
  ∃ (b n : Nat) (D : DataW Int) (f : Int → Option Int), s = .map (some b) ∧ base ≤ b ∧ W.ownsMap Tryz.prog 3 iR b n D ∧ n ≤ N ∧ MapI D f ∧ LeastF S dir f
set_option maxRecDepth 100000 in
set_option maxHeartbeats 4000000 in
theorem least_c (A : Option Addr) (n c : Nat) (S : List Msg) (dir : Int) (w : World) (hr : Reads w w.heap.size 4 A n (mv S)) (hn : n ≤ 100000) (hw : ∀ x ∈ S, wfI x.v) :
    Calls Tryz.prog 63 #[.slice A n c, .int .i64 dir] w fun e w' => ∃ s, e = .returned s ∧ LeastV w.heap.size n s S dir w' ∧ Below w.heap.size w w' := by
  have hl := Lib.hid hr.mail_len
  have HR := Lib.hid hr
  have HW := Lib.hid hw
  clear hr hw
  have hmm := @run_makeMap Tryz.prog
  go_enter Tryz.func63, Tryz.ntmps63
  go_wp2_with (fail)
  clear hmm
  go_loopw [13] (fun i wr => ∃ (j k : Nat) (D : DataW Int) (f : Int → Option Int), j ≤ n ∧ k ≤ j ∧ i = .int .i64 j ∧ wr.ownsMap Tryz.prog 3 iR w.heap.size k D ∧ Hid (MapI D f) ∧ Hid (LeastF (S.take j) dir f) ∧ Below w.heap.size w wr) (fun i _ => n - (intOf i).toNat)
  case atStart => exact ⟨0, 0, .map [], fun _ => none, Nat.zero_le _, Nat.le_refl _, rfl, World.ownsMap_made _ _ _ _, MapI.nil, by show LeastF _ _ _; simpa using leastF_nil dir, (Below.refl _ _).alloc (Nat.le_refl _) _⟩
  case round =>
    obtain ⟨j, k, D, f, hj, hk, rfl, hown, hD, hf, hB⟩ := hrel
    by_cases hlt : j < n
    · obtain ⟨b, o, x, rfl, hx, d0, d1, d2, d3⟩ := (HR.out.below hB).mail_at hlt
      have hwx : Hid (wfI x.v) := HW.out x (List.mem_of_getElem? hx.out)
      have HX := Lib.hid hx.out
      have htk : Hid (S.take (j + 1) = S.take j ++ [x]) := by show _ = _; rw [List.take_add_one, HX.out]; rfl
      have HOW := Lib.hid (hown.alloc (.cells #[.int .i64 x.slot, .int .i64 x.dir, .int .i64 x.v, .int .i64 x.d] 121))
      have HB := Lib.hid (hB.trans ((below_one wr (.cells #[.int .i64 x.slot, .int .i64 x.dir, .int .i64 x.v, .int .i64 x.d] 121)).mono hB.size))
      have f1 : (0 : Int) ≤ (j : Int) := by omega
      have f2 : (j : Int) < (n : Int) := by omega
      clear hx hB hown
      by_cases hd : x.dir = dir
      · have hd1 : (x.dir == dir) = true := by simpa using hd
        have HDR := Lib.hid hd
        clear hd
        cases hfx : f x.v with
        | none =>
          have HFX := Lib.hid hfx
          have hf' : Hid (LeastF (S.take (j + 1)) dir (fun m => if m = x.v then some x.d else f m)) := by
            show LeastF _ _ _
            rw [htk.out]
            exact leastF_put hf.out hwx.out HDR.out fun d h => by rw [HFX.out] at h; cases h
          clear hfx
          go_wp2_with (first
            | (at_lookup; refine wpList_lookI_ok elII (by kernel_rfl) _ _ rfl rfl HOW.out hD.out rfl hwx.out ?_; rw [HFX.out]; dsimp only [Option.isSome, Option.getD])
            | (at_mapUpdate; refine wpList_putI elII rfl rfl _ _ _ rfl rfl HOW.out (by unfold maxLen; omega) hD.out rfl hwx.out x.d rfl ?_; intro w1 D1 hown1 hm1 hg1))
          have HB1 := Lib.hid (HB.out.grown hg1 HB.out.size (fun q hq => by cases hq; exact Nat.le_refl _))
          go_roundw
          case rel => exact ⟨j + 1, k + 1, D1, _, by omega, by omega, by go_num, hown1, hm1, hf', HB1.out⟩
          case measure => simp [intOf]; omega
        | some d0' =>
          have HFX := Lib.hid hfx
          clear hfx
          by_cases hlt2 : x.d < d0'
          · have hf' : Hid (LeastF (S.take (j + 1)) dir (fun m => if m = x.v then some x.d else f m)) := by
              show LeastF _ _ _
              rw [htk.out]
              exact leastF_put hf.out hwx.out HDR.out fun d h => by rw [HFX.out] at h; cases h; exact hlt2
            go_wp2_with (first
              | (at_lookup; refine wpList_lookI_ok elII (by kernel_rfl) _ _ rfl rfl HOW.out hD.out rfl hwx.out ?_; rw [HFX.out]; dsimp only [Option.isSome, Option.getD])
              | (at_mapUpdate; refine wpList_putI elII rfl rfl _ _ _ rfl rfl HOW.out (by unfold maxLen; omega) hD.out rfl hwx.out x.d rfl ?_; intro w1 D1 hown1 hm1 hg1))
            have HB1 := Lib.hid (HB.out.grown hg1 HB.out.size (fun q hq => by cases hq; exact Nat.le_refl _))
            go_roundw
            case rel => exact ⟨j + 1, k + 1, D1, _, by omega, by omega, by go_num, hown1, hm1, hf', HB1.out⟩
            case measure => simp [intOf]; omega
          · have hf' : Hid (LeastF (S.take (j + 1)) dir f) := by
              show LeastF _ _ _
              rw [htk.out]
              exact leastF_same hf.out hwx.out (.inr ⟨d0', HFX.out, by omega⟩)
            have hlt3 : decide (x.d < d0') = false := decide_eq_false hlt2
            go_wp2_with (first
              | (at_lookup; refine wpList_lookI_ok elII (by kernel_rfl) _ _ rfl rfl HOW.out hD.out rfl hwx.out ?_; rw [HFX.out]; dsimp only [Option.isSome, Option.getD]))
            go_roundw
            case rel => exact ⟨j + 1, k, D, f, by omega, by omega, by go_num, HOW.out, hD, hf', HB.out⟩
            case measure => simp [intOf]; omega
      · have hd1 : (x.dir == dir) = false := by simpa using hd
        have hf' : Hid (LeastF (S.take (j + 1)) dir f) := by
          show LeastF _ _ _
          rw [htk.out]
          exact leastF_same hf.out hwx.out (.inl hd)
        clear hd
        go_wp2_with (first
          | (at_lookup; refine wpList_lookI_ok elII (by kernel_rfl) _ _ rfl rfl HOW.out hD.out rfl hwx.out ?_))
        go_roundw
        case rel => exact ⟨j + 1, k, D, f, by omega, by omega, by go_num, HOW.out, hD, hf', HB.out⟩
        case measure => simp [intOf]; omega
    · obtain rfl : j = n := by omega
      have HB := Lib.hid hB
      have HF : Hid (LeastV w.heap.size j (.map (some w.heap.size)) S dir wr) := ⟨w.heap.size, k, D, f, rfl, Nat.le_refl _, hown, hk, hD.out, by
        have h := hf.out
        rw [List.take_of_length_le (by rw [hl.out]; exact Nat.le_refl _)] at h
        exact h⟩
      clear hown hD hf hB
      go_wp2_with (fail)
      go_ret
      exact ⟨_, rfl, HF.out, HB.out⟩
end Go.Proofs.YtpdnipabaimofaaGreat

namespace Go.Proofs.YtpdnipabaimofaaGreat
open Go.RowKit
open Go.Maps (Keyed IsMap)

/-- The answer of a distance, as far as the keys os have been met. -/
def PM (f g : Int → Option Int) (os : List Int) (fd : Bool) (d : Int) : Prop :=
  (fd = true ∧ (∃ v ∈ os, ∃ a b, f v = some a ∧ g v = some b ∧ d = a + b) ∧ ∀ v ∈ os, ∀ a b, f v = some a → g v = some b → d ≤ a + b) ∨ (fd = false ∧ d = 0 ∧ ∀ v ∈ os, ∀ a, f v = some a → g v = none)
theorem pm_nil (f g : Int → Option Int) : PM f g [] false 0 := .inr ⟨rfl, rfl, fun v hv => by simp at hv⟩
theorem pm_skip {f g : Int → Option Int} {os : List Int} {fd : Bool} {d : Int} {x : Int} (h : PM f g os fd d) (hx : g x = none ∨ ∃ a b, f x = some a ∧ g x = some b ∧ fd = true ∧ d ≤ a + b) : PM f g (os ++ [x]) fd d := by
  rcases h with ⟨h1, ⟨v, hv, h2⟩, h3⟩ | ⟨h1, h2, h3⟩
  · refine .inl ⟨h1, ⟨v, List.mem_append_left _ hv, h2⟩, fun u hu a b ha hb => ?_⟩
    rcases List.mem_append.1 hu with k | k
    · exact h3 u k a b ha hb
    · rw [List.mem_singleton.1 k] at ha hb
      rcases hx with hx | ⟨a', b', e1, e2, _, e3⟩
      · rw [hx] at hb; cases hb
      · rw [e1] at ha; rw [e2] at hb; cases ha; cases hb; exact e3
  · refine .inr ⟨h1, h2, fun u hu a ha => ?_⟩
    rcases List.mem_append.1 hu with k | k
    · exact h3 u k a ha
    · rw [List.mem_singleton.1 k] at ha ⊢
      rcases hx with hx | ⟨a', b', e1, e2, e3, _⟩
      · exact hx
      · rw [h1] at e3; cases e3
theorem pm_put {f g : Int → Option Int} {os : List Int} {fd : Bool} {d a b : Int} {x : Int} (h : PM f g os fd d) (ha : f x = some a) (hb : g x = some b) (hx : fd = false ∨ a + b < d) : PM f g (os ++ [x]) true (a + b) := by
  refine .inl ⟨rfl, ⟨x, by simp, a, b, ha, hb, rfl⟩, fun u hu a' b' ha' hb' => ?_⟩
  rcases List.mem_append.1 hu with k | k
  · rcases h with ⟨h1, _, h3⟩ | ⟨h1, h2, h3⟩
    · have := h3 u k a' b' ha' hb'
      rcases hx with hx | hx
      · rw [h1] at hx; cases hx
      · omega
    · rw [h3 u k a' ha'] at hb'; cases hb'
  · rw [List.mem_singleton.1 k] at ha' hb'
    rw [ha] at ha'; rw [hb] at hb'; cases ha'; cases hb'
    exact Int.le_refl _
theorem pm_meet {S : List Msg} {f g : Int → Option Int} {os : List Int} {fd : Bool} {d : Int} (h : PM f g os fd d) (hf : LeastF S 0 f) (hg : LeastF S 1 g) (ho : ∀ n, wfI n → (n ∈ os ↔ (f n).isSome = true)) (hs : ∀ n ∈ os, wfI n) (hw : ∀ x ∈ S, wfI x.v) : MeetIs S fd d := by
  rcases h with ⟨h1, ⟨v, hv, a, b, ha, hb, rfl⟩, h3⟩ | ⟨h1, h2, h3⟩
  · have hwv := hs v hv
    obtain ⟨⟨x, hx, x1, x2, rfl⟩, _⟩ := (hf v hwv).1 a ha
    obtain ⟨⟨y, hy, y1, y2, rfl⟩, _⟩ := (hg v hwv).1 b hb
    refine .inl ⟨h1, ⟨x, hx, y, hy, x1, y1, x2.trans y2.symm, rfl⟩, fun x' hx' y' hy' x1' y1' hv' => ?_⟩
    have hwx := hw x' hx'
    cases hfx : f x'.v with
    | none => exact absurd rfl ((hf x'.v hwx).2 hfx x' hx' x1')
    | some a' =>
      cases hgx : g x'.v with
      | none => exact absurd hv'.symm ((hg x'.v hwx).2 hgx y' hy' y1')
      | some b' =>
        have e1 := h3 x'.v ((ho x'.v hwx).2 (by rw [hfx]; rfl)) a' b' hfx hgx
        have e2 := ((hf x'.v hwx).1 a' hfx).2 x' hx' x1' rfl
        have e3 := ((hg x'.v hwx).1 b' hgx).2 y' hy' y1' hv'.symm
        omega
  · refine .inr ⟨h1, h2, fun x hx y hy x1 y1 hv => ?_⟩
    have hwx := hw x hx
    cases hfx : f x.v with
    | none => exact (hf x.v hwx).2 hfx x hx x1 rfl
    | some a =>
      have := h3 x.v ((ho x.v hwx).2 (by rw [hfx]; rfl)) a hfx
      exact (hg x.v hwx).2 this y hy y1 hv.symm
theorem least_bd {S : List Msg} {dir : Int} {f : Int → Option Int} {x a : Int} (h : LeastF S dir f) (hw : wfI x) (hb : ∀ x ∈ S, 0 ≤ x.d ∧ x.d ≤ 1000) (ha : f x = some a) : 0 ≤ a ∧ a ≤ 1000 := by
  obtain ⟨⟨y, hy, _, _, rfl⟩, _⟩ := (h x hw).1 a ha
  exact hb y hy
def ansBox (fd : Bool) (d : Int) (A : Option Addr) (n c : Nat) : Obj := .cells #[.bool fd, .int .i64 d, .slice A n c] 36
/-- What meet hands out. -/
def MeetDone (S : List Msg) (w : World) (e : Ending) (w' : World) : Prop := ∃ (fd : Bool) (d : Int), e = .returned (.agg #[.bool fd, .int .i64 d, .slice none 0 0]) ∧ MeetIs S fd d ∧ Below w.heap.size w w'
theorem ans_end {fn : Func} {a : Act} {w : World} {R : Ending → World → Prop} {o k n c : Nat} {A : Option Addr} {fd : Bool} {d : Int} (hr : fn.results = #[.cell k 36]) (ht : a.tmps.getD k undef = .pointer (some ⟨o, 0, none⟩)) (hd : a.defers = [])
    (h0 : w.cell? ⟨o, 0, none⟩ = some (.bool fd)) (h1 : w.cell? ⟨o, 1, none⟩ = some (.int .i64 d)) (h2 : w.cell? ⟨o, 2, none⟩ = some (.slice A n c)) (h : R (.returned (.agg #[.bool fd, .int .i64 d, .slice A n c])) w) : bodyPost Tryz.prog fn R Exit.ret a w := by
  refine bodyPost_ret (v := .agg #[.bool fd, .int .i64 d, .slice A n c]) ?_ hd h
  rw [Array.getD_eq_getD_getElem?] at ht
  simp [results, hr, ht, h0, h1, h2, go_sem]
theorem ans_cells {w : World} {o n c : Nat} {A : Option Addr} {fd : Bool} {d : Int} (h : w.heap[o]? = some (ansBox fd d A n c)) : w.cell? ⟨o, 0, none⟩ = some (.bool fd) ∧ w.cell? ⟨o, 1, none⟩ = some (.int .i64 d) ∧ w.cell? ⟨o, 2, none⟩ = some (.slice A n c) := by
  refine ⟨?_, ?_, ?_⟩ <;> · rw [Lib.cell_of_heap h]; rfl
/-- The answer's box is turned whole. -/
theorem ans_set {w : World} {o n c : Nat} {A : Option Addr} {fd : Bool} {d : Int} (h : w.heap[o]? = some (ansBox fd d A n c)) (fd' : Bool) (d' : Int) (A' : Option Addr) (n' c' : Nat) :
    (((w.setCell ⟨o, 0, none⟩ (.bool fd')).setCell ⟨o, 1, none⟩ (.int .i64 d')).setCell ⟨o, 2, none⟩ (.slice A' n' c')).heap[o]? = some (ansBox fd' d' A' n' c') := by
  have h1 := heap_setCell_same w o 0 _ _ (.bool fd') h
  have h2 := heap_setCell_same _ o 1 _ _ (.int .i64 d') h1
  have h3 := heap_setCell_same _ o 2 _ _ (.slice A' n' c') h2
  unfold ansBox
  simpa using h3
theorem ans_grown (w : World) (o : Nat) (u v t : Value) : w.grownBy (((w.setCell ⟨o, 0, none⟩ u).setCell ⟨o, 1, none⟩ v).setCell ⟨o, 2, none⟩ t) (some o) :=
  only_setCell (only_setCell (only_setCell (only_refl w (some o)) (p := ⟨o, 0, none⟩) (.inl rfl) u) (p := ⟨o, 1, none⟩) (.inl rfl) v) (p := ⟨o, 2, none⟩) (.inl rfl) t
set_option maxRecDepth 100000 in
set_option maxHeartbeats 4000000 in
theorem meet_c (A : Option Addr) (n c : Nat) (S : List Msg) (w : World) (hr : Reads w w.heap.size 4 A n (mv S)) (hn : n ≤ 100000) (hw : ∀ x ∈ S, wfI x.v) (hb : ∀ x ∈ S, 0 ≤ x.d ∧ x.d ≤ 1000) :
    Calls Tryz.prog 62 #[.slice A n c] w fun e w' => MeetDone S w e w' := by
  have HR := Lib.hid hr
  have HW := Lib.hid hw
  have HBD := Lib.hid hb
  have hB0 := below_two w (ansBox false 0 none 0 0) (ansBox false 0 none 0 0)
  have HN0 : Hid (((w.alloc (ansBox false 0 none 0 0)).alloc (ansBox false 0 none 0 0)).heap[w.heap.size]? = some (ansBox false 0 none 0 0)) := (Below.heap_alloc _ _ _ (by simp)).trans (World.alloc_heap_new w _)
  have HN1 : Hid (((w.alloc (ansBox false 0 none 0 0)).alloc (ansBox false 0 none 0 0)).heap[w.heap.size + 1]? = some (ansBox false 0 none 0 0)) := by
    have := World.alloc_heap_new (w.alloc (ansBox false 0 none 0 0)) (ansBox false 0 none 0 0)
    rw [World.size_alloc] at this
    exact this
  have HB0 := Lib.hid hB0
  clear hr hw hb hB0
  go_enter Tryz.func62, Tryz.ntmps62
  go_wp2_with (fail)
  refine (least_c A n c S 1 _ ((HR.out.below HB0.out).more HB0.out.size) hn HW.out).mono ?_
  rintro e w1 ⟨s1, rfl, ⟨k1, m1, D1, g, rfl, hk1, ho1, hm1, hM1, hg1⟩, hB1⟩
  have HB1 := Lib.hid (HB0.out.trans (hB1.mono HB0.out.size))
  have HN01 : Hid (w1.heap[w.heap.size]? = some (ansBox false 0 none 0 0)) := (hB1.block _ (Array.getElem?_eq_some_iff.1 HN0.out).1).trans HN0.out
  have HN11 : Hid (w1.heap[w.heap.size + 1]? = some (ansBox false 0 none 0 0)) := (hB1.block _ (Array.getElem?_eq_some_iff.1 HN1.out).1).trans HN1.out
  have HO1 := Lib.hid ho1
  have HM1 := Lib.hid hM1
  have HG := Lib.hid hg1
  have hk1' : w.heap.size + 2 ≤ k1 := by simpa using hk1
  clear hB1 HN0 HN1 ho1 hM1 hg1 hk1
  go_wp2_with (fail)
  refine (least_c A n c S 0 _ ((HR.out.below HB1.out).more HB1.out.size) hn HW.out).mono ?_
  rintro e w2 ⟨s2, rfl, ⟨k2, m2, D2, f, rfl, hk2, ho2, hm2, hM2, hf2⟩, hB2⟩
  have HB2 := Lib.hid (HB1.out.trans (hB2.mono HB1.out.size))
  have HN02 : Hid (w2.heap[w.heap.size]? = some (ansBox false 0 none 0 0)) := (hB2.block _ (Array.getElem?_eq_some_iff.1 HN01.out).1).trans HN01.out
  have HN12 : Hid (w2.heap[w.heap.size + 1]? = some (ansBox false 0 none 0 0)) := (hB2.block _ (Array.getElem?_eq_some_iff.1 HN11.out).1).trans HN11.out
  have HO12 := Lib.hid (HO1.out.kept (only_of_below hB2 none) (by simp))
  have HO2 := Lib.hid ho2
  have HM2 := Lib.hid hM2
  have HF := Lib.hid hf2
  have hk1w := HO1.out.lt
  have hk2w := ho2.lt
  clear hB2 HN01 HN11 ho2 hM2 hf2 HO1
  have hs2 : w.heap.size + 2 ≤ w2.heap.size := by omega
  go_wp2_with (at_range; refine wpList_rangeI elII rfl _ rfl rfl HO2.out HM2.out ?_; intro w0 cnt0 left0 hrg0 hcnt0 hmet0 hg0 hs0)
  try go_frame
  have HB3 := Lib.hid (HB2.out.grown hg0 HB2.out.size (fun j hj => by cases hj))
  have HN03 : Hid (w0.heap[w.heap.size]? = some (ansBox false 0 none 0 0)) := (hg0.block _ (by omega) (by simp)).trans HN02.out
  have HN13 : Hid (w0.heap[w.heap.size + 1]? = some (ansBox false 0 none 0 0)) := (hg0.block _ (by omega) (by simp)).trans HN12.out
  have HO13 := Lib.hid (HO12.out.kept hg0 (by simp))
  generalize hR : w2.heap.size = R at *
  have hk1R : k1 < R := by omega
  clear hg0 HO12 HN02 HN12 HO2 HB2 HB1
  go_loopw [5] (fun _ wr => ∃ (left : Lit → Bool) (cnt : Nat) (os : List Int) (fd : Bool) (d : Int), wr.ranges Tryz.prog 3 iR k2 R m2 D2 left cnt ∧ Hid (MetI f left os) ∧ wr.ownsMap Tryz.prog 3 iR k1 m1 D1 ∧ Hid (PM f g os fd d) ∧ Hid (wr.heap[w.heap.size]? = some (ansBox false 0 none 0 0)) ∧ Hid (wr.heap[w.heap.size + 1]? = some (ansBox fd d none 0 0)) ∧
    Below w.heap.size w wr ∧ R + 1 ≤ wr.heap.size) (fun _ wr => wr.rangeLeft k2 R)
  case atStart => exact ⟨left0, cnt0, [], false, 0, hrg0, hmet0, HO13.out, pm_nil f g, HN03, HN13, HB3.out, by omega⟩
  case round =>
    clear hrg0 hmet0 HO13 HN03 HN13 HB3 hs0 hcnt0
    obtain ⟨left, cnt, os, fd, d, hrg, hmet, ho1, hpm, hn0, hn1, hB, hsz⟩ := hrel
    have HL := Lib.hid hrg.left_eq
    have HO1 := Lib.hid ho1
    have HB := Lib.hid hB
    clear ho1 hB
    go_wp2_with (at_next; refine wpList_nextI elII rfl _ rfl rfl hrg HM2.out hmet.out ?_ ?_)
    · intro hd
      have HMD : Hid (MeetIs S fd d) := pm_meet hpm.out HF.out HG.out hd.out (fun n hn => (hmet.out.sub n hn).2) HW.out
      obtain ⟨a0, a1, a2⟩ := ans_cells hn1.out
      obtain ⟨z0, z1, z2⟩ := ans_cells hn0.out
      have y0 := Lib.frozen_of_heap hn0.out 0
      have y1 := Lib.frozen_of_heap hn0.out 1
      have y2 := Lib.frozen_of_heap hn0.out 2
      clear hrg hmet hd
      go_wp2_with (fail)
      refine ans_end rfl rfl rfl (by go_cell) (by go_cell) (by go_cell) ⟨fd, d, rfl, HMD.out, ?_⟩
      exact ((HB.out.setCell (p := ⟨w.heap.size, 0, none⟩) (Nat.le_refl _) _).setCell (p := ⟨w.heap.size, 1, none⟩) (Nat.le_refl _) _).setCell (p := ⟨w.heap.size, 2, none⟩) (Nat.le_refl _) _
    · intro x a left' w1' cnt1 hwf hfx hmet1 hrg1 hlt1 hg1 hs1 hen
      have HB1 := Lib.hid (HB.out.grown hg1 HB.out.size (fun q hq => by cases hq; omega))
      have HO1' := Lib.hid (HO1.out.kept hg1 (by intro e; injection e; omega))
      have HN0 : Hid (w1'.heap[w.heap.size]? = some (ansBox false 0 none 0 0)) := (hg1.block _ (by omega) (by intro e; injection e; omega)).trans hn0.out
      have HN1 : Hid (w1'.heap[w.heap.size + 1]? = some (ansBox fd d none 0 0)) := (hg1.block _ (by omega) (by intro e; injection e; omega)).trans hn1.out
      have HRG := Lib.hid hrg1
      have HM1' := Lib.hid hmet1
      have hsz1 : R + 1 ≤ w1'.heap.size := by omega
      obtain ⟨a0, a1, a2⟩ := ans_cells HN1.out
      have y0 := Lib.frozen_of_heap HN1.out 0
      have y1 := Lib.frozen_of_heap HN1.out 1
      have y2 := Lib.frozen_of_heap HN1.out 2
      have hba := least_bd HF.out hwf.out HBD.out hfx.out.1
      clear hg1 hrg1 hs1 hrg hmet hmet1 hn0 hn1 HO1 HB
      cases hgx : g x with
      | none =>
        have HGX := Lib.hid hgx
        clear hgx
        go_wp2_with (at_lookup; refine wpList_lookI_ok elII (by kernel_rfl) _ _ rfl rfl HO1'.out HM1.out rfl hwf.out ?_; rw [HGX.out]; dsimp only [Option.isSome, Option.getD])
        go_roundw
        case rel => exact ⟨left', cnt1, os ++ [x], fd, d, HRG.out, HM1'.out.out, HO1'.out, pm_skip hpm.out (.inl HGX.out), HN0, HN1, HB1.out, hsz1⟩
        case measure => rw [HRG.out.left_eq, HL.out]; exact hlt1
      | some b =>
        have HGX := Lib.hid hgx
        clear hgx
        have hbb := least_bd HG.out hwf.out HBD.out HGX.out
        have e1 : IntKind.i64.wrap (a + b) = a + b := IntWalk.i64_in _ (by omega)
        have e2 : wrap64 (a + b) = a + b := IntWalk.wrap64_in _ (by omega)
        cases fd with
        | false =>
          go_wp2_with (at_lookup; refine wpList_lookI_ok elII (by kernel_rfl) _ _ rfl rfl HO1'.out HM1.out rfl hwf.out ?_; rw [HGX.out]; dsimp only [Option.isSome, Option.getD])
          have hgr := ans_grown w1' (w.heap.size + 1) (.bool true) (.int .i64 (a + b)) (.slice none 0 0)
          have hrg4 := HRG.out.kept hgr (by intro e; injection e; omega) (by intro e; injection e; omega)
          have HO4 := HO1'.out.kept hgr (by intro e; injection e; omega)
          go_roundw
          case rel => exact ⟨left', cnt1, os ++ [x], true, a + b, hrg4, HM1'.out.out, HO4, pm_put hpm.out hfx.out.1 HGX.out (.inl rfl), (hgr.block _ (by omega) (by intro e; injection e; omega)).trans HN0.out, ans_set HN1.out true (a + b) none 0 0, HB1.out.grown hgr HB1.out.size (fun q hq => by cases hq; omega), Nat.le_trans hsz1 hgr.size⟩
          case measure => rw [hrg4.left_eq, HL.out]; exact hlt1
        | true =>
          by_cases hlt2 : a + b < d
          · go_wp2_with (at_lookup; refine wpList_lookI_ok elII (by kernel_rfl) _ _ rfl rfl HO1'.out HM1.out rfl hwf.out ?_; rw [HGX.out]; dsimp only [Option.isSome, Option.getD])
            have hgr := ans_grown w1' (w.heap.size + 1) (.bool true) (.int .i64 (a + b)) (.slice none 0 0)
            have hrg4 := HRG.out.kept hgr (by intro e; injection e; omega) (by intro e; injection e; omega)
            have HO4 := HO1'.out.kept hgr (by intro e; injection e; omega)
            go_roundw
            case rel => exact ⟨left', cnt1, os ++ [x], true, a + b, hrg4, HM1'.out.out, HO4, pm_put hpm.out hfx.out.1 HGX.out (.inr hlt2), (hgr.block _ (by omega) (by intro e; injection e; omega)).trans HN0.out, ans_set HN1.out true (a + b) none 0 0, HB1.out.grown hgr HB1.out.size (fun q hq => by cases hq; omega), Nat.le_trans hsz1 hgr.size⟩
            case measure => rw [hrg4.left_eq, HL.out]; exact hlt1
          · have hlt3 : decide (a + b < d) = false := decide_eq_false hlt2
            go_wp2_with (at_lookup; refine wpList_lookI_ok elII (by kernel_rfl) _ _ rfl rfl HO1'.out HM1.out rfl hwf.out ?_; rw [HGX.out]; dsimp only [Option.isSome, Option.getD])
            go_roundw
            case rel => exact ⟨left', cnt1, os ++ [x], true, d, HRG.out, HM1'.out.out, HO1'.out, pm_skip hpm.out (.inr ⟨a, b, hfx.out.1, HGX.out, rfl, by omega⟩), HN0, HN1, HB1.out, hsz1⟩
            case measure => rw [HRG.out.left_eq, HL.out]; exact hlt1
end Go.Proofs.YtpdnipabaimofaaGreat
