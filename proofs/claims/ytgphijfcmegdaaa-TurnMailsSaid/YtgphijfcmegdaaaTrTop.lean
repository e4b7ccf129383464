/-
  The walks of turn's exported functions.
-/
import Derived.Test.YtgphijfcmegdaaaTrOrdM
namespace Go.Proofs.Ytgphijfcmegdaaa
open Go.RowKit

set_option maxRecDepth 100000 in
theorem of_c (C : Option Addr) (m d : Nat) (w : World) :
    Calls Try.prog 30 #[.slice C m d] w fun e w' => e = .returned (.func (.func 49) #[] #[.pointer (some ⟨w.heap.size + 1, 0, none⟩), .pointer (some ⟨w.heap.size, 0, none⟩)]) ∧
      Below w.heap.size w w' ∧ w.heap.size + 1 < w'.heap.size ∧ w'.cell? ⟨w.heap.size + 1, 0, none⟩ = some (.int .i64 ((0 : Int) - 1)) ∧ w'.frozen? ⟨w.heap.size + 1, 0, none⟩ = false ∧ w'.cell? ⟨w.heap.size, 0, none⟩ = some (.slice C m d) := by
  have hmf : ∀ (fn : Fn) (first cap : Array Value) (w : World), (Instr.makeFunc fn first cap).run Try.prog w = .ok (.func fn first cap) w := fun _ _ _ _ => rfl
  have hW : Hid (∀ w', w' = (w.alloc (.cells #[.slice C m d] 23)).alloc (.cells #[.int .i64 (-1)] 3) →
      Below w.heap.size w w' ∧ w.heap.size + 1 < w'.heap.size ∧ w'.cell? ⟨w.heap.size + 1, 0, none⟩ = some (.int .i64 ((0 : Int) - 1)) ∧ w'.frozen? ⟨w.heap.size + 1, 0, none⟩ = false ∧ w'.cell? ⟨w.heap.size, 0, none⟩ = some (.slice C m d)) := by
    rintro w' rfl
    refine ⟨((Below.refl _ _).alloc (Nat.le_refl _) _).alloc (by simp) _, by simp, ?_, World.frozen?_alloc_at _ _ _ _ (by simp), ?_⟩
    · rw [World.cell?_alloc_at _ _ _ _ (by simp)]; rfl
    · rw [World.cell?_alloc_past _ _ _ (by simp), World.cell?_alloc_at _ _ _ _ rfl]; rfl
  go_enter Try.func30, Try.ntmps30
  go_wp2
  go_ret
  exact ⟨rfl, hW.out _ rfl⟩

set_option maxRecDepth 100000 in
theorem turnMails_c (A C : Option Addr) (n c m d : Nat) (xs : List Msg) (ps : List Int) (w : World) (hr : Reads w w.heap.size 4 A n (mv xs)) (hn : n ≤ 1000000) (hrp : Reads w w.heap.size 1 C m (iv ps)) (hm : m ≤ maxLen) :
    Calls Try.prog 10 #[.slice A n c, .slice C m d] w fun e w' =>
      ∃ A' c', e = .returned (.slice A' n c') ∧ w'.ownsRow w.heap.size 31 4 (.slice A' n c') n (mv (ord xs ps)) ∧ Below w.heap.size w w' := by
  go_enter Try.func10, Try.ntmps10
  go_wp2_with (go_at_call 30; refine (of_c _ _ _ _).mono ?_; rintro e w1 ⟨rfl, hB1, hs1, hi1, hf1, hp1⟩)
  have hrp1 : Reads w1 w1.heap.size 1 C m (iv ps) := (hrp.below hB1).more hB1.size
  have hr1 : Reads w1 w1.heap.size 4 A n (mv xs) := (hr.below hB1).more hB1.size
  have hlt : 0 < m → ∀ a, C = some a → a.block ≠ w.heap.size + 1 := fun h a ha => by have := hrp.lt_ h a ha; omega
  refine (orderedM_c (w.heap.size + 1) w.heap.size A n c xs ps m d C w1 hr1 hn hi1 hf1 hp1 (by omega) hm hrp1 hlt).mono ?_
  rintro e w2 ⟨A', c', rfl, hown, hB2⟩
  go_wp2
  go_ret
  exact ⟨A', c', rfl, own_more hown (by omega), hB1.trans (hB2.mono (by omega))⟩


theorem range_snoc (k : Nat) : (List.range (k + 1)).map (fun i : Nat => (i : Int)) = (List.range k).map (fun i : Nat => (i : Int)) ++ [(k : Int)] := by
  rw [List.range_succ, List.map_append]; rfl

/-- 0 to n-1. -/
def upto (n : Nat) : List Int := (List.range n).map fun i : Nat => (i : Int)
theorem upto_len (n : Nat) : (upto n).length = n := by simp [upto]

theorem upto_succ (k : Nat) : upto (k + 1) = upto k ++ [(k : Int)] := range_snoc k
theorem upto_get (n k : Nat) (h : k < n) : (upto n)[k]? = some (k : Int) := by
  unfold upto
  rw [List.getElem?_map, List.getElem?_range h]; rfl
theorem upto_set (k n : Nat) (h : k < n) : (iv (upto k ++ List.replicate (n - k) 0)).set k (.int .i64 (k : Int)) = iv (upto (k + 1) ++ List.replicate (n - (k + 1)) 0) := by
  obtain ⟨r, hr⟩ : ∃ r, n - k = r + 1 := ⟨n - k - 1, by omega⟩
  rw [hr, show n - (k + 1) = r by omega, upto_succ, List.replicate_succ, iv_append, iv_append, List.set_append_right _ _ (by rw [iv_len, upto_len]; exact Nat.le_refl _), iv_len, upto_len, Nat.sub_self]
  simp [iv]

theorem order_no (C : Option Addr) (n : Int) (m d : Nat) (w : World) (hn : n < 0 ∨ 1000 < n) :
    Calls Try.prog 11 #[.int .i64 n, .slice C m d] w fun e w' => e = .returned (.tuple #[.slice none 0 0, .int .i64 1]) ∧ w = w' := by
  rcases hn with hn | hn
  · go_enter Try.func11, Try.ntmps11
    go_wp2
    go_ret2
    exact ⟨rfl, rfl⟩
  · have hn' : ¬ n < 0 := by omega
    go_enter Try.func11, Try.ntmps11
    go_wp2
    go_ret2
    exact ⟨rfl, rfl⟩

set_option maxRecDepth 100000 in
theorem turnOrder_c (C : Option Addr) (n m d : Nat) (ps : List Int) (w : World) (hn : n ≤ 1000) (hrp : Reads w w.heap.size 1 C m (iv ps)) (hm : m ≤ maxLen) :
    Calls Try.prog 11 #[.int .i64 n, .slice C m d] w fun e w' =>
      ∃ A' c', e = .returned (.tuple #[.slice A' n c', .int .i64 0]) ∧ w'.ownsRow w.heap.size 3 1 (.slice A' n c') n (iv (ord (upto n) ps)) ∧ Below w.heap.size w w' := by
  obtain ⟨i0, hi0, hz0, hz1, hz2⟩ := info_parts infoInt
  have hd1 : (decide ((n : Int) < 0)) = false := by simp
  go_enter Try.func11, Try.ntmps11
  go_wp2_with (at_make; refine wpList_make_full _ rfl _ _ 23 rfl w.heap.size 3 i0 _ 1 Try.underlying23 hi0 hz0 hz1 _ _ _ _ n rfl rfl rfl rfl (by rw [hz2]; omega) (by unfold maxLen; omega) (Nat.le_refl _) ?_; intro w1 hown1 hg1)
  have hown : w1.ownsRow w.heap.size 3 1 (.slice (some ⟨w.heap.size, 0, none⟩) n n) n (iv (upto 0 ++ List.replicate (n - 0) 0)) := by
    have e : (madeCells (Value.int .i64 0).cells (n * 1)).toList = iv (upto 0 ++ List.replicate (n - 0) 0) := by
      rw [Nat.mul_one]
      have := toList_madeCells_one (.int .i64 0) n
      simp only [upto, List.range_zero, List.map_nil, List.nil_append, Nat.sub_zero, iv, List.map_replicate]
      exact this
    rw [← e]; exact hown1
  have hB1 : Below w.heap.size w w1 := (Below.refl _ _).grown hg1 (Nat.le_refl _) (fun _ h => by cases h)
  have hs1 : w.heap.size < w1.heap.size := (own_lt hown _ rfl).2
  clear hown1 hg1
  go_loopw [18] (fun i wr => ∃ k : Nat, k ≤ n ∧ i = .int .i64 k ∧ wr.ownsRow w.heap.size 3 1 (.slice (some ⟨w.heap.size, 0, none⟩) n n) n (iv (upto k ++ List.replicate (n - k) 0)) ∧ Below w.heap.size w wr) (fun i _ => n - (intOf i).toNat)
  case atStart => exact ⟨0, Nat.zero_le _, rfl, hown, hB1⟩
  case round =>
    obtain ⟨k, hk, rfl, ho, hB⟩ := hrel
    by_cases hlt : k < n
    · have hsz : w.heap.size ≤ wr.heap.size := hB.size
      obtain ⟨x, _, hcx⟩ := own_int_at ho hlt
      have hfx := ho.frozenAt k
      go_wp2
      go_roundw
      case rel =>
        have h := ho.stored k (.int .i64 (k : Int))
        rw [upto_set k n hlt] at h
        exact ⟨k + 1, by omega, by go_num, h.1, hB.grown h.2 hsz (fun g h => by injection h; omega)⟩
      case measure => simp [intOf]; omega
    · obtain rfl : k = n := by omega
      have ho2 : wr.ownsRow w.heap.size 3 1 (.slice (some ⟨w.heap.size, 0, none⟩) k k) k (iv (upto k)) := by
        have h := ho
        rw [Nat.sub_self, List.replicate_zero, List.append_nil] at h
        exact h
      have hlo := (own_lt ho2 _ rfl).2
      go_wp2_with (go_at_call 30; refine (of_c _ _ _ _).mono ?_; rintro e w2 ⟨rfl, hB2, hs2, hi2, hf2, hp2⟩)
      have hrp2 : Reads w2 w2.heap.size 1 C m (iv ps) := ((hrp.below hB).below (hB2.mono hB.size)).more (Nat.le_trans hB.size hB2.size)
      have ho3 := own_below ho2 hB2
      have hlt2 : 0 < m → ∀ a, C = some a → a.block ≠ wr.heap.size + 1 := fun h a ha => by have := hrp.lt_ h a ha; have := hB.size; omega
      refine (ordered_c (wr.heap.size + 1) wr.heap.size _ k k (upto k) ps m d C w2 (own_reads ho3) (by omega) hi2 hf2 hp2 (by omega) hm hrp2 hlt2).mono ?_
      rintro e w3 ⟨A', c', rfl, hown3, hB3⟩
      go_wp2
      go_ret2
      exact ⟨A', c', rfl, own_more hown3 (by have := hB.size; omega), hB.trans ((hB2.mono hB.size).trans (hB3.mono (by have := hB.size; omega)))⟩
end Go.Proofs.Ytgphijfcmegdaaa
