/-
  found's fold, found and All: the walks.
  found and All: the walks.
-/
import Derived.Test.YtpdnipabaimofaaGreatJ17
import Derived.Test.YtpdnipabaimofaaGreatJ05
import Derived.StillTailTactics
import Derived.Deep.RegionHeld3
namespace Go.Proofs.YtpdnipabaimofaaGreat
open Go.RowKit Go.Shelf Go.Lib

theorem all1_c (s : Value) (w : World) : Calls Tryz.prog 15 #[s] w fun e w' => e = .returned (.func (.func 16) #[s] #[]) ∧ w' = w := by
  have hmf : ∀ (fn : Fn) (first cap : Array Value) (w : World), (Instr.makeFunc fn first cap).run Tryz.prog w = .ok (.func fn first cap) w := fun _ _ _ _ => rfl
  go_enter Tryz.func15, Tryz.ntmps15
  go_wp2_with (fail)
  go_ret
  exact ⟨rfl, rfl⟩

/-- What found lays for its closure. -/
structure FdAt (bw bl : Nat) (A : Option Addr) (n c : Nat) (L : List Pst) (W : World) : Prop where
  w_ : W.heap[bw]? = some (.cells #[.func (.func 15) #[] #[]] 69 (0, 0))
  l_ : W.heap[bl]? = some (.cells #[.slice A n c] 28 (0, 0))
  in_ : PsIn W W.heap.size A n L
section
variable {bw bl n c : Nat} {A : Option Addr} {L : List Pst} {W W' : World}
theorem FdAt.below (h : FdAt bw bl A n c L W) (hB : Below W.heap.size W W') : FdAt bw bl A n c L W' :=
  ⟨(hB.block _ (Array.getElem?_eq_some_iff.1 h.w_).1).trans h.w_, (hB.block _ (Array.getElem?_eq_some_iff.1 h.l_).1).trans h.l_, (h.in_.below hB).more hB.size⟩
theorem FdAt.cells (h : FdAt bw bl A n c L W) : W.cell? ⟨bw, 0, none⟩ = some (.func (.func 15) #[] #[]) ∧ W.cell? ⟨bl, 0, none⟩ = some (.slice A n c) := by
  refine ⟨?_, ?_⟩
  · rw [Lib.cell_of_heap h.w_]; rfl
  · rw [Lib.cell_of_heap h.l_]; rfl
set_option maxRecDepth 100000 in
set_option maxHeartbeats 4000000 in
theorem found1_c (b N : Nat) (s : Value) (p : Int → Bool) (x : ByteArray) (h : FdAt bw bl A n c L W) (hn : n ≤ 1000000) (hp : ∀ p ∈ L, p.n ≤ 1000) (hs : SetV b N s p W) (hN : N ≤ 1000) :
    Calls Tryz.prog 29 #[s, .string x, .pointer (some ⟨bw, 0, none⟩), .pointer (some ⟨bl, 0, none⟩)] W fun e w' => ∃ s', e = .returned s' ∧ SetV W.heap.size N s' (fun v => p v && decide (v ∈ findP L x)) w' ∧ Below W.heap.size W w' := by
  obtain ⟨c0, c1⟩ := h.cells
  have HF := Lib.hid h
  have HS := Lib.hid hs
  have HPN := Lib.hid hp
  clear h hs hp
  go_enter Tryz.func29, Tryz.ntmps29
  go_wp2_with (fail)
  refine wp_region_still_tail 5 (by kernel_rfl) (by kernel_rfl) ?_
  simp only [List.take_succ_cons, List.take_zero, List.drop_succ_cons, List.drop_zero]
  obtain ⟨w3, hw3⟩ : ∃ w3, w3 = W.drew := ⟨_, rfl⟩
  change W.drew.cell? _ = _ at c0 c1
  have HF3 : Hid (FdAt bw bl A n c L w3) := by show FdAt _ _ _ _ _ _ _; rw [hw3]; exact HF.out.below (Below.refl _ _).drew
  have HS3 : Hid (SetV b N s p w3) := by show SetV _ _ _ _ _; rw [hw3]; exact HS.out.below (Below.refl _ _).drew
  have HB3 : Hid (Below W.heap.size W w3) := by show Below _ _ _; rw [hw3]; exact (Below.refl _ _).drew
  rw [← hw3] at c0 c1
  change wpStill _ _ W.drew (fun a' => wpList _ _ _ _ a' W.drew) _ _
  rw [← hw3]
  clear hw3 HF HS
  repeat still_step
  still_call (all1_c _ _)
  repeat still_step
  refine wpStill_nil ?_
  go_wp2_with (fail)
  refine (find_c A n c L x w3 HF3.out.in_ hn HPN.out).mono ?_
  rintro e w4 ⟨A4, n4, c4, rfl, hn4, hr4, hB4⟩
  have HR4 := Lib.hid hr4
  have HB4 := Lib.hid hB4
  clear hr4 hB4 c0 c1
  go_wp2_with (fail)
  refine (setOf_c A4 n4 c4 (findP L x) w4 HR4.out (by omega) (findP_wf HF3.out.in_ x)).mono ?_
  rintro e w5 ⟨s5, rfl, hs5, hB5⟩
  have HS5 := Lib.hid hs5
  have HB5 := Lib.hid hB5
  clear hs5 hB5
  go_wp2_with (fail)
  refine (meetS_c b w4.heap.size N n4 N n4 s s5 p (fun y => decide (y ∈ findP L x)) w5 ((HS3.out.below HB4.out).below (HB5.out)) HS5.out (by omega)).mono ?_
  rintro e w6 ⟨s6, rfl, hs6, hB6⟩
  have HS6 := Lib.hid (hs6.more (base' := W.heap.size) (Nat.le_trans HB3.out.size (Nat.le_trans HB4.out.size HB5.out.size)))
  have HB6 := Lib.hid (((HB3.out.trans (HB4.out.mono HB3.out.size)).trans (HB5.out.mono (Nat.le_trans HB3.out.size HB4.out.size))).trans (hB6.mono (Nat.le_trans HB3.out.size (Nat.le_trans HB4.out.size HB5.out.size))))
  clear hs6 hB6
  go_wp2_with (fail)
  go_ret
  exact ⟨_, rfl, HS6.out, HB6.out⟩

/-- What a fold over words makes of a set. -/
def foldW (L : List Pst) (p : Int → Bool) (ws : List ByteArray) : Int → Bool := fun v => p v && ws.all fun x => decide (v ∈ findP L x)
theorem foldW_nil (p : Int → Bool) : foldW L p [] = p := by funext v; simp [foldW]
theorem foldW_snoc (p : Int → Bool) (ws : List ByteArray) (x : ByteArray) : foldW L p (ws ++ [x]) = fun v => foldW L p ws v && decide (v ∈ findP L x) := by
  funext v
  simp [foldW, List.all_append, Bool.and_assoc]
set_option maxRecDepth 100000 in
set_option maxHeartbeats 4000000 in
theorem folded_c (b N nw cw : Nat) (Aw : Option Addr) (ws : List ByteArray) (s : Value) (p : Int → Bool) (h : FdAt bw bl A n c L W) (hn : n ≤ 1000000) (hp : ∀ p ∈ L, p.n ≤ 1000) (hs : SetV b N s p W) (hN : N ≤ 1000) (hw : Reads W W.heap.size 1 Aw nw (sv ws)) (hnw : nw ≤ 9223372036854775807) :
    Calls Tryz.prog 26 #[s, .slice Aw nw cw, .func (.func 29) #[] #[.pointer (some ⟨bw, 0, none⟩), .pointer (some ⟨bl, 0, none⟩)]] W fun e w' => ∃ s', e = .returned s' ∧ SetV 0 N s' (foldW L p ws) w' ∧ Below W.heap.size W w' := by
  have HF := Lib.hid h
  have HS := Lib.hid hs
  have HPN := Lib.hid hp
  have HR := Lib.hid hw
  have HL : Hid (ws.length = nw) := hw.str_len
  clear h hs hp hw
  go_enter Tryz.func26, Tryz.ntmps26
  go_wp2_with (fail)
  go_loopw [0, 11] (fun v i wr => ∃ (j : Nat), j ≤ nw ∧ i = .int .i64 j ∧ Hid (SetV 0 N v (foldW L p (ws.take j)) wr) ∧ Below W.heap.size W wr) (fun _ i _ => nw - (intOf i).toNat)
  case atStart => exact ⟨0, Nat.zero_le _, rfl, by show SetV _ _ _ _ _; rw [List.take_zero, foldW_nil]; exact HS.out.more (Nat.zero_le _), Below.refl _ _⟩
  case round =>
    clear HS
    obtain ⟨j, hj, rfl, hS, hB⟩ := hrel
    by_cases hlt : j < nw
    · obtain ⟨b1, o1, x, rfl, hx, d0⟩ := (HR.out.below hB).str_at hlt
      have HX := Lib.hid hx.out
      have HB := Lib.hid hB
      have HF1 := Lib.hid (HF.out.below hB)
      have f1 : (0 : Int) ≤ (j : Int) := by omega
      have f2 : (j : Int) < (nw : Int) := by omega
      clear hx hB
      go_wp2_with (fail)
      refine (found1_c 0 N _ (foldW L p (ws.take j)) x HF1.out hn HPN.out hS.out hN).mono ?_
      rintro e w1 ⟨s1, rfl, hs1, hB1⟩
      have HS1 : Hid (SetV 0 N s1 (foldW L p (ws.take (j + 1))) w1) := by
        show SetV _ _ _ _ _
        rw [List.take_add_one, HX.out, Option.toList_some, foldW_snoc]
        exact hs1.more (Nat.zero_le _)
      have HB1 := Lib.hid (HB.out.trans (hB1.mono HB.out.size))
      clear hs1 hB1 d0
      go_wp2_with (fail)
      go_roundw
      case rel => exact ⟨j + 1, by omega, by go_num, HS1, HB1.out⟩
      case measure => simp [intOf]; omega
    · obtain rfl : j = nw := by omega
      have HB := Lib.hid hB
      have HS' := hS.out
      rw [List.take_of_length_le (by rw [HL.out]; exact Nat.le_refl _)] at HS'
      have HS2 := Lib.hid HS'
      clear hB HS' hS
      go_wp2_with (fail)
      go_ret
      exact ⟨_, rfl, HS2.out, HB.out⟩
end
end Go.Proofs.YtpdnipabaimofaaGreat

namespace Go.Proofs.YtpdnipabaimofaaGreat
open Go.RowKit Go.Shelf Go.Lib

/-- A number that is a place of each word. -/
def inAll (L : List Pst) (ws : List ByteArray) (x : Int) : Prop := ∀ w ∈ ws, x ∈ findP L w
theorem foldW_all {L : List Pst} {w0 : ByteArray} {ws : List ByteArray} {x : Int} : foldW L (fun v => decide (v ∈ findP L w0)) ws x = true ↔ inAll L (w0 :: ws) x := by
  unfold foldW inAll
  simp
section
variable {n c : Nat} {A : Option Addr} {L : List Pst} {W : World}
theorem fdAt_new (h : PsIn W W.heap.size A n L) : FdAt (W.heap.size + 1) W.heap.size A n c L ((W.alloc (.cells #[.slice A n c] 28)).alloc (.cells #[.func (.func 15) #[] #[]] 69)) := by
  have hb := below_two W (.cells #[.slice A n c] 28) (.cells #[.func (.func 15) #[] #[]] 69)
  refine ⟨?_, ?_, (h.below hb).more hb.size⟩
  · have := World.alloc_heap_new (W.alloc (.cells #[.slice A n c] 28)) (.cells #[.func (.func 15) #[] #[]] 69)
    rw [World.size_alloc] at this
    exact this
  · rw [Below.heap_alloc _ _ _ (by simp)]
    exact World.alloc_heap_new W _
set_option maxRecDepth 100000 in
set_option maxHeartbeats 4000000 in
theorem found_c (Aw : Option Addr) (nw cw : Nat) (ws : List ByteArray) (h : PsIn W W.heap.size A n L) (hn : n ≤ 1000000) (hp : ∀ p ∈ L, p.n ≤ 1000) (hw : Reads W W.heap.size 1 Aw nw (sv ws)) (hnw : nw ≤ 9223372036854775807) (hcw : nw ≤ cw) (h1 : 1 ≤ nw) :
    Calls Tryz.prog 14 #[.slice A n c, .slice Aw nw cw, .func (.func 15) #[] #[]] W fun e w' => ∃ (A' : Option Addr) (n' c' : Nat) (ps : List Int), e = .returned (.tuple #[.slice A' n' c', .int .i64 0]) ∧ n' ≤ 1000 ∧ Hid (∀ x, x ∈ ps ↔ inAll L ws x) ∧ w'.ownsRow W.heap.size 3 1 (.slice A' n' c') n' (iv ps) ∧ Below W.heap.size W w' := by
  have hmf : ∀ (fn : Fn) (first cap : Array Value) (w : World), (Instr.makeFunc fn first cap).run Tryz.prog w = .ok (.func fn first cap) w := fun _ _ _ _ => rfl
  have hf := fdAt_new (c := c) h
  have hb := below_two W (.cells #[.slice A n c] 28) (.cells #[.func (.func 15) #[] #[]] 69)
  have hl := hw.str_len
  obtain ⟨w0, rest, rfl⟩ : ∃ w0 rest, ws = w0 :: rest := by
    cases ws with
    | nil => simp at hl; omega
    | cons a l => exact ⟨a, l, rfl⟩
  have HF := Lib.hid hf
  have HB := Lib.hid hb
  have HPN := Lib.hid hp
  have HW := Lib.hid ((hw.below hb).more hb.size)
  obtain ⟨b, o, x, rfl, hx, -⟩ := hw.str_at (k := 0) (by omega)
  obtain rfl : w0 = x := by have := hx.out; simpa using this
  obtain ⟨A5, hA5⟩ : ∃ A5, (if cw = 1 then some (⟨b, o, none⟩ : Addr) else some ⟨b, o + 1, none⟩) = A5 := ⟨_, rfl⟩
  have HWD : Hid (∀ W1, Below ((W.alloc (.cells #[.slice A n c] 28)).alloc (.cells #[.func (.func 15) #[] #[]] 69)).heap.size ((W.alloc (.cells #[.slice A n c] 28)).alloc (.cells #[.func (.func 15) #[] #[]] 69)) W1 → FdAt (W.heap.size + 1) W.heap.size A n c L W1 ∧ W1.cell? ⟨W.heap.size, 0, none⟩ = some (.slice A n c) ∧ W1.cell? ⟨b, o, none⟩ = some (.string w0) ∧ Reads W1 W1.heap.size 1 A5 (nw - 1) (sv rest) ∧ Below W.heap.size W W1) := fun W1 hB => by
    have h2 := HF.out.below hB
    have h3 := HW.out.below hB
    refine ⟨h2, h2.cells.2, ?_, ?_, HB.out.trans (hB.mono HB.out.size)⟩
    · obtain ⟨b', o', x', e1, hx', hc⟩ := h3.str_at (k := 0) (by omega)
      cases e1
      have : x' = w0 := by have := hx'.out; simp at this; exact this.symm
      rw [this] at hc
      exact hc
    · have h4 := (h3.more hB.size).cut (k := 1) (A' := A5) h1 (fun hlt b' o' e => by cases e; rw [← hA5, if_neg (by omega)])
      exact h4
  obtain ⟨-, k0, k1, -, -⟩ := HWD.out _ (Below.refl _ _)
  have g1 : ¬ (nw : Int) = 0 := by omega
  have g2 : ((nw : Int) == 0) = false := by rw [beq_eq_false_iff_ne]; exact g1
  have g3 : (0 : Int) < (nw : Int) := by omega
  have g4 : (1 : Int) ≤ (nw : Int) := by omega
  have g5 : 0 < nw := h1
  have g6 : ¬ nw = 0 := by omega
  have g7 : nw ≠ 0 := by omega
  clear h hp hw hf hb hl hx
  go_enter Tryz.func14, Tryz.ntmps14
  go_wp2_with (fail)
  generalize hw1 : (W.alloc (.cells #[.slice A n c] 28)).alloc (.cells #[.func (.func 15) #[] #[]] 69) = w1 at k0 k1 HWD ⊢
  clear HF HB HW hw1
  have HFI : Hid (∀ W1, Below w1.heap.size w1 W1 → Calls Tryz.prog 28 #[.slice A n c, .string w0] W1 fun e w' => ∃ A' n' c', e = .returned (.slice A' n' c') ∧ n' ≤ 1000 ∧ Reads w' w'.heap.size 1 A' n' (iv (findP L w0)) ∧ Below W1.heap.size W1 w') := fun W1 hB => find_c A n c L w0 W1 (HWD.out W1 hB).1.in_ hn HPN.out
  have HOI : Hid (∀ W1 A4 n4 c4, Below w1.heap.size w1 W1 → n4 ≤ 1000 → Reads W1 W1.heap.size 1 A4 n4 (iv (findP L w0)) → Calls Tryz.prog 27 #[.slice A4 n4 c4] W1 fun e w' => ∃ s, e = .returned s ∧ SetV 0 n4 s (fun x => decide (x ∈ findP L w0)) w' ∧ Below W1.heap.size W1 w') := fun W1 A4 n4 c4 hB hn4 hr =>
    (setOf_c A4 n4 c4 (findP L w0) W1 hr (by omega) (findP_wf (HWD.out W1 hB).1.in_ w0)).mono fun e w' ⟨s, h1, h2, h3⟩ => ⟨s, h1, h2.more (Nat.zero_le _), h3⟩
  have HDI : Hid (∀ W1 n4 s5, Below w1.heap.size w1 W1 → n4 ≤ 1000 → SetV 0 n4 s5 (fun x => decide (x ∈ findP L w0)) W1 → Calls Tryz.prog 26 #[s5, .slice A5 (nw - 1) (cw - 1), .func (.func 29) #[] #[.pointer (some ⟨W.heap.size + 1, 0, none⟩), .pointer (some ⟨W.heap.size, 0, none⟩)]] W1 fun e w' => ∃ s', e = .returned s' ∧ SetV 0 n4 s' (foldW L (fun x => decide (x ∈ findP L w0)) rest) w' ∧ Below W1.heap.size W1 w') := fun W1 n4 s5 hB hn4 hs =>
    folded_c 0 n4 (nw - 1) (cw - 1) _ rest s5 _ (HWD.out W1 hB).1 hn HPN.out hs hn4 (HWD.out W1 hB).2.2.2.1 (by omega)
  go_region_held3 (fun W1 : World => W1.cell? ⟨W.heap.size, 0, none⟩ = some (.slice A n c) ∧ W1.cell? ⟨b, o, none⟩ = some (.string w0))
    (first | exact ⟨k0, k1⟩ | exact ⟨(HWD.out _ HB4.out).2.1, (HWD.out _ HB4.out).2.2.1⟩ | exact ⟨(HWD.out _ HB5.out).2.1, (HWD.out _ HB5.out).2.2.1⟩ | exact ⟨(HWD.out _ HB6.out).2.1, (HWD.out _ HB6.out).2.2.1⟩)
    ((first
      | (go_at_call 28; refine (HFI.out _ ((Below.refl _ _).drew)).mono ?_; rintro e w4 ⟨A4, n4, c4, rfl, hn4, hr4, hB4⟩; have HB4 := Lib.hid (((Below.refl w1.heap.size w1).drew).trans hB4); have HR4 := Lib.hid hr4; clear hB4 hr4)
      | (go_at_call 27; refine (HOI.out _ _ _ _ HB4.out hn4 HR4.out).mono ?_; rintro e w5 ⟨s5, rfl, hs5, hB5'⟩; have HB5 := Lib.hid (HB4.out.trans (hB5'.mono HB4.out.size)); have HS5 := Lib.hid hs5; clear hB5' hs5)
      | (go_at_call 26; refine (HDI.out _ _ _ HB5.out hn4 HS5.out).mono ?_; rintro e w6 ⟨s6, rfl, hs6, hB6'⟩; have HB6 := Lib.hid (HB5.out.trans (hB6'.mono HB5.out.size)); have HS6 := Lib.hid hs6; clear hB6' hs6)))
  all_goals
    have HBW : Hid (Below W.heap.size W w6) := (HWD.out _ HB6.out).2.2.2.2
    clear k0 k1 HFI HOI HDI HR4 HS5 HB4 HB5
    go_wp2_with (fail)
    refine (rising_c 0 n4 s6 _ w6 HS6.out (by omega)).mono ?_
    rintro e w7 ⟨A7, n7, c7, ps, rfl, hn7, hps, ho7, hB7⟩
    have HO7 := Lib.hid (own_more (base := W.heap.size) ho7 HBW.out.size)
    have HB7 := Lib.hid (HBW.out.trans (hB7.mono HBW.out.size))
    have HPS : Hid (∀ x, x ∈ ps ↔ inAll L (w0 :: rest) x) := fun x => by
      rw [hps.out x, foldW_all]
      refine ⟨fun h => h.2, fun h => ⟨findP_wf (HWD.out _ (Below.refl _ _)).1.in_ w0 x (h w0 (by simp)), h⟩⟩
    clear ho7 hB7 hps
    go_wp2_with (fail)
    go_ret2
    exact ⟨A7, n7, c7, ps, rfl, by omega, HPS.out, HO7.out, HB7.out⟩
set_option maxRecDepth 100000 in
theorem found0_c (A : Option Addr) (n c : Nat) (Aw : Option Addr) (cw : Nat) (W : World) :
    Calls Tryz.prog 14 #[.slice A n c, .slice Aw 0 cw, .func (.func 15) #[] #[]] W fun e w' => e = .returned (.tuple #[.slice none 0 0, .int .i64 1]) ∧ Below W.heap.size W w' := by
  go_enter Tryz.func14, Tryz.ntmps14
  go_wp2_with (fail)
  go_ret2
  exact ⟨rfl, below_two W _ _⟩
/-- What All tells. -/
def AllDone (L : List Pst) (ws : List ByteArray) (nw : Nat) (W : World) (e : Ending) (w' : World) : Prop :=
  ∃ (A' : Option Addr) (n' c' : Nat) (ps : List Int), e = .returned (.tuple #[.slice A' n' c', .int .i64 (if nw = 0 then 1 else 0)]) ∧ n' ≤ 1000 ∧ (nw ≠ 0 → ∀ x, x ∈ ps ↔ inAll L ws x) ∧ w'.ownsRow W.heap.size 3 1 (.slice A' n' c') n' (iv ps) ∧ Below W.heap.size W w'
set_option maxRecDepth 100000 in
theorem postAll_c (Aw : Option Addr) (nw cw : Nat) (ws : List ByteArray) (h : PsIn W W.heap.size A n L) (hn : n ≤ 1000000) (hp : ∀ p ∈ L, p.n ≤ 1000) (hw : Reads W W.heap.size 1 Aw nw (sv ws)) (hnw : nw ≤ 9223372036854775807) (hcw : nw ≤ cw) :
    Calls Tryz.prog 8 #[.slice A n c, .slice Aw nw cw] W fun e w' => AllDone L ws nw W e w' := by
  by_cases h0 : nw = 0
  · subst h0
    clear hw hnw hcw hp hn h
    go_enter Tryz.func8, Tryz.ntmps8
    go_wp2_with (fail)
    refine (found0_c A n c Aw cw W).mono ?_
    rintro e w1 ⟨rfl, hB⟩
    have HB := Lib.hid hB
    clear hB
    go_wp2_with (fail)
    go_ret2
    exact ⟨none, 0, 0, [], rfl, by omega, fun h => absurd rfl h, own_nil, HB.out⟩
  · have HFD := Lib.hid (found_c (c := c) Aw nw cw ws h hn hp hw hnw hcw (by omega))
    have h0' := Lib.hid h0
    clear hw hnw hcw hp hn h h0
    go_enter Tryz.func8, Tryz.ntmps8
    go_wp2_with (fail)
    refine HFD.out.mono ?_
    rintro e w1 ⟨A1, n1, c1, ps, rfl, hn1, hps, ho, hB⟩
    have HO := Lib.hid ho
    have HB := Lib.hid hB
    clear ho hB
    go_wp2_with (fail)
    go_ret2
    exact ⟨A1, n1, c1, ps, by rw [if_neg h0'.out]; rfl, hn1, fun _ => hps.out, HO.out, HB.out⟩
end
end Go.Proofs.YtpdnipabaimofaaGreat
