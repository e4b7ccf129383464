/-
  The program's reader: text and numbers.
-/
import Derived.Test.YtmnjlhifjjainaaGreatWireRdr
namespace Go.Proofs.YtmnjlhifjjainaaGreat
open Go.RowKit

/-- What a reader's call of text leaves. -/
def TextDone (w w' : World) (b : Nat) (s : ByteArray) (e : Ending) : Option (ByteArray × Nat) → Prop
  | some (t, q) => e = .returned (.string t) ∧ RdrAt w' b s q false ∧ w.grownBy w' (some b)
  | none => (∃ x p', e = .returned x ∧ RdrAt w' b s p' true) ∧ w.grownBy w' (some b)

set_option maxRecDepth 100000 in
set_option maxHeartbeats 1000000 in
theorem rdrText_c (b : Nat) (s : ByteArray) (p : Int) (w : World) (hr : RdrAt w b s p false) (hs : s.size ≤ 1000000) :
    Calls Tryz.prog 74 #[.pointer (some ⟨b, 0, none⟩)] w fun e w' => TextDone w w' b s e (rdText s p) := by
  go_enter Tryz.func74, Tryz.ntmps74
  go_wp2_with (fail)
  refine (rdrNumber_c b s p w hr hs).mono ?_
  rintro e w1 hnd
  cases hx : rdAt s p with
  | none =>
    have HR : Hid (rdText s p = none) := by show _ = _; unfold rdText; rw [hx]
    rw [hx] at hnd
    obtain ⟨⟨x, p', rfl, hR⟩, hG⟩ := hnd
    clear hx hr
    obtain ⟨c0, c1, c2⟩ := hR.cells
    have f2 := hR.frozen 2
    go_wp2_with (fail)
    go_quiet (fail)
    go_wp2_with (fail)
    go_ret
    rw [HR.out]
    exact ⟨⟨_, _, rfl, (show RdrAt (w1.drewN _) b s p' true from hR).setBad true⟩, only_trans_row (only_drewN hG _) (grown_set _ b 2 _)⟩
  | some y =>
    obtain ⟨n, q⟩ := y
    rw [hx] at hnd
    obtain ⟨rfl, hR, hG⟩ := hnd
    obtain ⟨h1, h2, h3, h4, _⟩ := rdAt_spec hx
    unfold maxNum at h4
    clear hr
    obtain ⟨c0, c1, c2⟩ := hR.cells
    have f0 := hR.frozen 0
    have f1 := hR.frozen 1
    have f2 := hR.frozen 2
    have i0 : IntKind.i64.wrap ((s.size : Int) - (q : Int)) = (s.size : Int) - (q : Int) := IntWalk.i64_in _ (by omega)
    by_cases hn : n ≤ 4000
    · by_cases hq : q + n ≤ s.size
      · have HR : Hid (rdText s p = some (s.extract q (q + n), q + n)) := by show _ = _; unfold rdText; rw [hx]; simp only; rw [if_pos ⟨hn, hq⟩]
        clear hx
        have d1 : ¬ (4000 : Int) < (n : Int) := by omega
        have d2 : ¬ (s.size : Int) - (q : Int) < (n : Int) := by omega
        go_wp2_with (fail)
        go_quiet (fail)
        go_wp2_with (fail)
        have hR2 : RdrAt ((w1.drewN nq).setCell ⟨b, 1, none⟩ (.int .i64 ((q : Int) + (n : Int)))) b s ((q : Int) + (n : Int)) false := (show RdrAt (w1.drewN nq) b s q false from hR).setPlace _
        have hG2 : w.grownBy ((w1.drewN nq).setCell ⟨b, 1, none⟩ (.int .i64 ((q : Int) + (n : Int)))) (some b) := only_trans_row (only_drewN hG _) (grown_set _ b 1 _)
        generalize (w1.drewN nq).setCell ⟨b, 1, none⟩ (.int .i64 ((q : Int) + (n : Int))) = w2 at hR2 hG2 ⊢
        clear c0 c1 c2 f0 f1 f2 hR hG
        obtain ⟨c0, c1, c2⟩ := hR2.cells
        go_quiet (fail)
        go_wp2_with (fail)
        go_ret
        rw [HR.out]
        exact ⟨rfl, by rw [show ((q + n : Nat) : Int) = (q : Int) + (n : Int) by omega]; exact hR2, only_drewN hG2 _⟩
      · have HR : Hid (rdText s p = none) := by show _ = _; unfold rdText; rw [hx]; simp only; rw [if_neg (fun h => hq h.2)]
        clear hx
        have d1 : ¬ (4000 : Int) < (n : Int) := by omega
        have d2 : (s.size : Int) - (q : Int) < (n : Int) := by omega
        go_wp2_with (fail)
        go_quiet (fail)
        go_wp2_with (fail)
        go_ret
        rw [HR.out]
        exact ⟨⟨_, _, rfl, (show RdrAt (w1.drewN _) b s q false from hR).setBad true⟩, only_trans_row (only_drewN hG _) (grown_set _ b 2 _)⟩
    · have HR : Hid (rdText s p = none) := by show _ = _; unfold rdText; rw [hx]; simp only; rw [if_neg (fun h => hn h.1)]
      clear hx
      have d1 : (4000 : Int) < (n : Int) := by omega
      go_wp2_with (fail)
      go_quiet (fail)
      go_wp2_with (fail)
      go_ret
      rw [HR.out]
      exact ⟨⟨_, _, rfl, (show RdrAt (w1.drewN _) b s q false from hR).setBad true⟩, only_trans_row (only_drewN hG _) (grown_set _ b 2 _)⟩

/-- What a reader's call of numbers leaves. -/
def NumsDone (w w' : World) (b : Nat) (s : ByteArray) (e : Ending) : Option (List Int × Nat) → Prop
  | some (xs, q) => (∃ A c, e = .returned (.slice A xs.length c) ∧ w'.ownsRow w.heap.size 3 1 (.slice A xs.length c) xs.length (iv xs)) ∧ RdrAt w' b s q false ∧ w.grownBy w' (some b)
  | none => (∃ x p', e = .returned x ∧ RdrAt w' b s p' true) ∧ w.grownBy w' (some b)

theorem only_push {w wr w4 : World} {b : Nat} {A A' : Option Addr} (hG : w.grownBy wr (some b)) (hA : ∀ a, A = some a → w.heap.size ≤ a.block) (p : Pushed wr w4 A A') : w.grownBy w4 (some b) :=
  ⟨p.grown.os.trans hG.os, p.grown.tape.trans hG.tape, p.grown.output.trans hG.output, Nat.le_trans hG.size p.grown.size, fun k hk hne =>
    (p.grown.block k (Nat.lt_of_lt_of_le hk hG.size) (fun e => by
      cases hA' : A with
      | none => rw [hA'] at e; cases e
      | some a => rw [hA'] at e; simp at e; have := hA a hA'; omega)).trans (hG.block k hk hne)⟩

theorem own_grown {w wr : World} {base b n c : Nat} {e : TypeId} {A : Option Addr} {xs : List Value} (ho : w.ownsRow base e 1 (.slice A n c) n xs) (hb : b < base) (hG : w.grownBy wr (some b)) : wr.ownsRow base e 1 (.slice A n c) n xs := by
  refine ho.kept hG ?_
  rw [own_block]
  cases hA : A with
  | none => simp
  | some a => right; have := (own_lt ho a hA).1; simp; omega

theorem rdr_push {wr w4 : World} {b : Nat} {s : ByteArray} {p : Int} {bad : Bool} {A A' : Option Addr} {base : Nat} (hR : RdrAt wr b s p bad) (hb : b < base) (hA : ∀ a, A = some a → base ≤ a.block) (pp : Pushed wr w4 A A') : RdrAt w4 b s p bad :=
  (pp.grown.block b hR.lt (fun e => by
      cases hA' : A with
      | none => rw [hA'] at e; cases e
      | some a => rw [hA'] at e; simp at e; have := hA a hA'; omega)).trans hR

set_option maxRecDepth 100000 in
set_option maxHeartbeats 1000000 in
theorem rdrNumbers_c (b : Nat) (s : ByteArray) (p : Int) (w : World) (hr : RdrAt w b s p false) (hs : s.size ≤ 1000000) :
    Calls Tryz.prog 71 #[.pointer (some ⟨b, 0, none⟩)] w fun e w' => NumsDone w w' b s e (rdNums s p) := by
  have hbw := hr.lt
  go_enter Tryz.func71, Tryz.ntmps71
  go_wp2_with (fail)
  refine (rdrNumber_c b s p w hr hs).mono ?_
  rintro e w1 hnd
  cases hx : rdAt s p with
  | none =>
    have HR : Hid (rdNums s p = none) := by show _ = _; unfold rdNums; rw [hx]
    rw [hx] at hnd
    obtain ⟨⟨x, p', rfl, hR⟩, hG⟩ := hnd
    clear hx hr
    obtain ⟨c0, c1, c2⟩ := hR.cells
    have f2 := hR.frozen 2
    go_wp2_with (fail)
    have hR2 := hR.setBad true
    have hG2 := only_trans_row hG (grown_set w1 b 2 (.bool true))
    generalize w1.setCell ⟨b, 2, none⟩ (.bool true) = w2 at hR2 hG2 ⊢
    clear c0 c1 c2 f2 hR hG
    obtain ⟨c0, c1, c2⟩ := hR2.cells
    go_loopw [3, 22] (fun l i wr => l = .slice none 0 0 ∧ i = .int .i64 0 ∧ wr = w2) (fun _ _ _ => 0)
    case atStart => exact ⟨rfl, rfl, rfl⟩
    case round =>
      obtain ⟨rfl, rfl, rfl⟩ := hrel
      by_cases h0 : 0 < x
      · go_wp2_with (fail)
        go_ret
        rw [HR.out]
        exact ⟨⟨_, _, rfl, hR2⟩, hG2⟩
      · go_wp2_with (fail)
        go_ret
        rw [HR.out]
        exact ⟨⟨_, _, rfl, hR2⟩, hG2⟩
  | some y =>
    obtain ⟨n, q⟩ := y
    rw [hx] at hnd
    obtain ⟨rfl, hR, hG⟩ := hnd
    obtain ⟨h1, h2, h3, h4, _⟩ := rdAt_spec hx
    unfold maxNum at h4
    clear hr
    obtain ⟨c0, c1, c2⟩ := hR.cells
    have f2 := hR.frozen 2
    by_cases hn : n ≤ 4000
    · have HR : Hid (rdNums s p = rdMany s n q) := by show _ = _; unfold rdNums; rw [hx]; simp only; rw [if_pos hn]
      clear hx
      have d1 : decide ((4000 : Int) < (n : Int)) = false := by simp; omega
      go_wp2_with (fail)
      have hR2 := hR.setBad false
      have hG2 := only_trans_row hG (grown_set w1 b 2 (.bool false))
      generalize w1.setCell ⟨b, 2, none⟩ (.bool false) = w2 at hR2 hG2 ⊢
      clear c0 c1 c2 f2 hR hG
      go_loopw [3, 22] (fun l i wr => ∃ (xs : List Int) (A : Option Addr) (c : Nat), xs.length ≤ n ∧ i = .int .i64 (xs.length : Nat) ∧ l = .slice A xs.length c ∧ wr.ownsRow w.heap.size 3 1 (.slice A xs.length c) xs.length (iv xs) ∧ w.grownBy wr (some b) ∧
        ((∃ q' : Nat, RdrAt wr b s q' false ∧ Hid (rdMany s n q = (rdMany s (n - xs.length) q').map fun r => (xs ++ r.1, r.2))) ∨ (∃ p' : Int, RdrAt wr b s p' true ∧ Hid (rdMany s n q = none)))) (fun _ i _ => n - (intOf i).toNat)
      case atStart => exact ⟨[], none, 0, by simp, rfl, rfl, own_nil, hG2, .inl ⟨q, hR2, by show _ = _; simp⟩⟩
      case round =>
        obtain ⟨xs, A, c, hxl, rfl, rfl, ho, hG3, hst⟩ := hrel
        clear hR2 hG2
        have hsz := hG3.size
        by_cases hlt : xs.length < n
        · rcases hst with ⟨q', hR3, hm⟩ | ⟨p', hR3, hm⟩
          · obtain ⟨c0, c1, c2⟩ := hR3.cells
            go_wp2_with (fail)
            refine (rdrNumber_c b s q' _ hR3 hs).mono ?_
            rintro e w3 hnd
            have hk : n - xs.length = (n - xs.length - 1) + 1 := by omega
            cases hx : rdAt s q' with
            | none =>
              rw [hx] at hnd
              obtain ⟨⟨x, p', rfl, hR4⟩, hG4⟩ := hnd
              have HN : Hid (rdMany s n q = none) := by
                show _ = _
                rw [hm.out, hk]; simp only [rdMany]; rw [hx]; rfl
              clear hx hm c0 c1 c2 hR3 hk
              have ho4 := own_grown ho hbw hG4
              have hG5 := only_trans_row hG3 hG4
              have hsz5 := hG5.size
              clear ho hG4 hG3
              go_wp2_with (at_builtin; refine wpList_push elInt rfl _ _ rfl ho4 rfl _ rfl rfl (one_int _ _) (by unfold maxLen; omega) (by omega) hsz5 ?_; intro A4 c4 w4 ho5 p5)
              go_roundw
              case rel =>
                have hAb : ∀ a, A = some a → w.heap.size ≤ a.block := fun a ha => (own_lt ho4 a ha).1
                refine ⟨xs ++ [x], A4, c4, by simp; omega, by simp, by simp, ?_, only_push hG5 hAb p5, .inr ⟨p', rdr_push hR4 hbw hAb p5, HN⟩⟩
                rw [List.length_append, iv_append]
                exact ho5
              case measure => simp [intOf] <;> omega
            | some y =>
              obtain ⟨m, q2⟩ := y
              rw [hx] at hnd
              obtain ⟨rfl, hR4, hG4⟩ := hnd
              have HM : Hid (rdMany s n q = (rdMany s (n - (xs.length + 1)) q2).map fun r => ((xs ++ [(m : Int)]) ++ r.1, r.2)) := by
                show _ = _
                rw [hm.out, hk]; simp only [rdMany]; rw [hx]
                simp only [Option.map_map]
                rw [show n - xs.length - 1 = n - (xs.length + 1) by omega]
                congr 1
                funext r
                simp
              clear hx hm c0 c1 c2 hR3 hk
              have ho4 := own_grown ho hbw hG4
              have hG5 := only_trans_row hG3 hG4
              have hsz5 := hG5.size
              clear ho hG4 hG3
              go_wp2_with (at_builtin; refine wpList_push elInt rfl _ _ rfl ho4 rfl _ rfl rfl (one_int _ _) (by unfold maxLen; omega) (by omega) hsz5 ?_; intro A4 c4 w4 ho5 p5)
              go_roundw
              case rel =>
                have hAb : ∀ a, A = some a → w.heap.size ≤ a.block := fun a ha => (own_lt ho4 a ha).1
                refine ⟨xs ++ [(m : Int)], A4, c4, by simp; omega, by simp, by simp, ?_, only_push hG5 hAb p5, .inl ⟨q2, rdr_push hR4 hbw hAb p5, ?_⟩⟩
                · rw [List.length_append, iv_append]
                  exact ho5
                · show _ = _
                  rw [HM.out, List.length_append]; rfl
              case measure => simp [intOf] <;> omega
          · obtain ⟨c0, c1, c2⟩ := hR3.cells
            go_wp2_with (fail)
            go_ret
            rw [HR.out, hm.out]
            exact ⟨⟨_, _, rfl, hR3⟩, hG3⟩
        · have hxn : xs.length = n := by omega
          rcases hst with ⟨q', hR3, hm⟩ | ⟨p', hR3, hm⟩
          · have HN : Hid (rdMany s n q = some (xs, q')) := by
              show _ = _
              rw [hm.out, show n - xs.length = 0 by omega]; simp [rdMany]
            clear hm
            go_wp2_with (fail)
            go_ret
            rw [HR.out, HN.out]
            exact ⟨⟨A, c, rfl, ho⟩, hR3, hG3⟩
          · go_wp2_with (fail)
            go_ret
            rw [HR.out, hm.out]
            exact ⟨⟨_, _, rfl, hR3⟩, hG3⟩
    · have HR : Hid (rdNums s p = none) := by show _ = _; unfold rdNums; rw [hx]; simp only; rw [if_neg hn]
      clear hx
      have d1 : decide ((4000 : Int) < (n : Int)) = true := by simp; omega
      have d2 : 0 < n := by omega
      go_wp2_with (fail)
      have hR2 := hR.setBad true
      have hG2 := only_trans_row hG (grown_set w1 b 2 (.bool true))
      generalize w1.setCell ⟨b, 2, none⟩ (.bool true) = w2 at hR2 hG2 ⊢
      clear c0 c1 c2 f2 hR hG
      obtain ⟨c0, c1, c2⟩ := hR2.cells
      go_loopw [3, 22] (fun l i wr => l = .slice none 0 0 ∧ i = .int .i64 0 ∧ wr = w2) (fun _ _ _ => 0)
      case atStart => exact ⟨rfl, rfl, rfl⟩
      case round =>
        obtain ⟨rfl, rfl, rfl⟩ := hrel
        go_wp2_with (fail)
        go_ret
        rw [HR.out]
        exact ⟨⟨_, _, rfl, hR2⟩, hG2⟩
end Go.Proofs.YtmnjlhifjjainaaGreat
