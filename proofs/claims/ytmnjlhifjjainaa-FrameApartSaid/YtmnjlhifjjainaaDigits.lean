/-
  wire.digits and its iterator.
-/
import Derived.Test.YtmnjlhifjjainaaProg
import Derived.Test.YtmnjlhifjjainaaOwn
import Derived.Test.YtmnjlhifjjainaaWirePlain
import Derived.Test.YtmnjlhifjjainaaRangeS
import Derived.BigQuiet
import Derived.Shelf.Abstract
import Derived.TacticsIn
import Derived.BigFrameIn
import Derived.LoopIn
namespace Go.Proofs.Ytmnjlhifjjainaa
open Go.RowKit Go.Shelf

theorem digits_c (n : Int) (w : World) :
    Calls Try.prog 98 #[.int .i64 n] w fun e w' => e = .returned (.func (.func 123) #[] #[.pointer (some ⟨w.heap.size, 0, none⟩)]) ∧ w' = w.alloc (.cells #[.int .i64 n] 3) := by
  go_enter Try.func98, Try.ntmps98
  go_wp2
  go_ret
  exact ⟨rfl, rfl⟩

/-- The iterator's rounds from n on. -/
inductive Digs : Nat → List (Nat × Bool) → Prop
  | last (n : Nat) (h : n / 128 = 0) : Digs n [(n % 128, false)]
  | more (n : Nat) (xs : List (Nat × Bool)) (h : n / 128 ≠ 0) (t : Digs (n / 128) xs) : Digs n ((n % 128, true) :: xs)

theorem digs_some (n : Nat) : ∃ xs, Digs n xs := by
  induction n using Nat.strongRecOn with
  | _ n ih =>
    by_cases h : n / 128 = 0
    · exact ⟨_, .last n h⟩
    · obtain ⟨xs, hx⟩ := ih (n / 128) (by omega)
      exact ⟨_, .more n xs h hx⟩

theorem digs_head (n : Nat) : ∃ xs, Digs n ((n % 128, decide (0 < n / 128)) :: xs) := by
  by_cases h : n / 128 = 0
  · exact ⟨[], by rw [show decide (0 < n / 128) = false by rw [h]; rfl]; exact .last n h⟩
  · obtain ⟨xs, hx⟩ := digs_some (n / 128)
    exact ⟨xs, by rw [show decide (0 < n / 128) = true by simp; omega]; exact .more n xs h hx⟩

abbrev dEncs (p : Nat × Bool) : Array Value := #[.int .i64 p.1, .bool p.2]

def cellNat (w : World) (Bn : Nat) : Nat := match w.cell? ⟨Bn, 0, none⟩ with
  | some (.int .i64 x) => x.toNat
  | _ => 0

theorem digits_gives (F : Fence) (k : Nat) (hF : F.fn 123) (hro : F.round = none) (hk : 1 ≤ k) (n : Nat) (w : World) (Bn : Nat) (hb : Boxed w Bn 3 (.int .i64 n)) (hmax : n ≤ maxNum) :
    GivesS F k Try.prog 123 #[.pointer (some ⟨Bn, 0, none⟩)] dEncs Bn (Digs n) w := by
  intro l J W hW hJs hY h0
  have hbW : Boxed W Bn 3 (.int .i64 n) := (hW.block Bn hb.lt).trans hb
  have hm' : n ≤ 2147483647 := hmax
  clear hb hW hmax
  refine callsIn_of_wp Try.func123 rfl hF ?_ hro
  simp only [Try.ntmps123, List.size_toArray, List.length_cons, List.length_nil, Nat.reduceAdd, Nat.reduceSub, Array.replicate_succ, Array.replicate_zero, List.push_toArray, List.append_toArray, List.nil_append, List.cons_append]
  gi_wp2_with (fail)
  gi_loopw [] (fun wr => ∃ (m : Nat) (pre : List (Nat × Bool)), m ≤ n ∧ Boxed wr Bn 3 (.int .i64 m) ∧ J pre wr ∧ Hid (∀ xs, Digs m xs → Digs n (pre ++ xs))) (fun wr => cellNat wr Bn)
  case atStart => exact ⟨n, [], Nat.le_refl _, hbW, h0, fun xs h => h⟩
  case round =>
    obtain ⟨m, pre, hm, hb, hj, hd⟩ := hrel
    have hc := hb.cell
    have hf := hb.frozen
    have hb' : Boxed (wr.setCell ⟨Bn, 0, none⟩ (.int .i64 ((m : Int) / 128))) Bn 3 (.int .i64 ((m : Int) / 128)) := hb.set _
    obtain ⟨f1, t1, a1, b1, hy, hR⟩ := hY pre (m % 128, decide (0 < m / 128)) _ (hJs _ _ (.int .i64 ((m : Int) / 128)) hj) (by obtain ⟨xs, hx⟩ := digs_head m; exact ⟨xs, hd.out _ hx⟩)
    have hdec : decide ((0 : Int) < (m : Int) / 128) = decide (0 < m / 128) := by congr 1; apply propext; constructor <;> intro h <;> omega
    dsimp only [dEncs] at hy
    rw [show ((m % 128 : Nat) : Int) = (m : Int) % 128 by omega, ← hdec] at hy
    clear hdec
    gi_wp2
    refine hR.mono ?_
    rintro e W1 ⟨rfl, hj1, hbk⟩
    have hb1 : Boxed W1 Bn 3 (.int .i64 ((m : Int) / 128)) := hbk.trans hb'
    have hc1 := hb1.cell
    have hf1 := hb1.frozen
    by_cases h0 : m / 128 = 0
    · have d1 : ((m : Int) / 128 = 0) := by omega
      gi_wp2_with (fail)
      refine bodyPost_ret (results_none rfl _ _ _) rfl ?_
      have hq : decide (0 < m / 128) = false := by rw [h0]; rfl
      rw [hq] at hj1
      exact ⟨⟨_, rfl⟩, _, hd.out _ (.last m h0), hj1⟩
    · have d1 : ¬ ((m : Int) / 128 = 0) := by omega
      gi_wp2_with (fail)
      have hq : decide (0 < m / 128) = true := by simp; omega
      rw [hq] at hj1
      refine ⟨⟨m / 128, _, by omega, by rw [show ((m / 128 : Nat) : Int) = (m : Int) / 128 by omega]; exact hb1, hj1, ?_⟩, ?_⟩
      · show ∀ xs, _
        intro xs hx
        have := hd.out _ (.more m xs h0 hx)
        rw [List.append_assoc]; exact this
      · unfold cellNat
        rw [hc, hc1]
        show ((m : Int) / 128).toNat < (m : Int).toNat
        omega

end Go.Proofs.Ytmnjlhifjjainaa
