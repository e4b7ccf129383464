/-
  The walk of order.Is, of a row that is an order.
-/
import Derived.Test.YtpkhlikeggolbaaOwnFn
import Derived.Test.YtpkhlikeggolbaaInts
namespace Go.Proofs.Ytpkhlikeggolbaa
open Go.RowKit

def bv (l : List Bool) : List Value := l.map Value.bool
theorem bv_len (l : List Bool) : (bv l).length = l.length := by simp [bv]
theorem infoBool : (Try.prog.info? 4).map (fun i => (i.zero, i.size, i.bytes)) = some (some (.bool false), 1, 1) := by kernel_rfl

/-- Which of 0 to n-1 are among some numbers. -/
def among (n : Nat) (zs : List Int) : List Bool := (List.range n).map fun j : Nat => decide ((j : Int) ∈ zs)
theorem among_len (n : Nat) (zs : List Int) : (among n zs).length = n := by simp [among]
theorem among_get (n : Nat) (zs : List Int) (j : Nat) (h : j < n) : (among n zs)[j]? = some (decide ((j : Int) ∈ zs)) := by
  unfold among
  rw [List.getElem?_map, List.getElem?_range h]; rfl
theorem among_nil (n : Nat) : among n [] = List.replicate n false := by
  apply List.ext_getElem?
  intro i
  by_cases h : i < n
  · rw [among_get _ _ _ h, List.getElem?_replicate, if_pos h]; simp
  · rw [List.getElem?_eq_none (by rw [among_len]; omega), List.getElem?_eq_none (by simp; omega)]
theorem among_snoc (n : Nat) (zs : List Int) (v : Nat) (h : v < n) : among n (zs ++ [(v : Int)]) = (among n zs).set v true := by
  apply List.ext_getElem?
  intro i
  by_cases hi : i < n
  · rw [among_get _ _ _ hi]
    by_cases e : v = i
    · subst e
      rw [List.getElem?_set_self (by rw [among_len]; exact hi)]; simp
    · rw [List.getElem?_set_ne e, among_get _ _ _ hi]
      congr 1
      simp only [List.mem_append, List.mem_singleton]
      have : ¬ (i : Int) = (v : Int) := by omega
      simp [this]
  · rw [List.getElem?_eq_none (by rw [among_len]; omega), List.getElem?_eq_none (by rw [List.length_set, among_len]; omega)]

theorem isOrder_c (A : Option Addr) (n c : Nat) (zs : List Int) (w : World) (hr : Reads w w.heap.size 1 A n (iv zs)) (hn : n ≤ 1000000) (hz : ∀ z ∈ zs, 0 ≤ z ∧ z < n) (hd : zs.Nodup) :
    Calls Try.prog 26 #[.slice A n c, .int .i64 n] w fun e w' => e = .returned (.bool true) ∧ Below w.heap.size w w' := by
  obtain ⟨i0, hi0, hz0, hz1, hz2⟩ := info_parts infoBool
  have hl := Lib.hid hr.int_len
  have HZ := Lib.hid hz
  have HD := Lib.hid hd
  clear hz hd
  go_enter Try.func26, Try.ntmps26
  go_wp2_with (at_make; refine wpList_make_full _ rfl _ _ 65 rfl w.heap.size 4 i0 _ 1 Try.underlying65 hi0 hz0 hz1 _ _ _ _ n rfl rfl rfl rfl (by rw [hz2]; omega) (by unfold maxLen; omega) (Nat.le_refl _) ?_; intro w1 hown1 hg1)
  have hown : w1.ownsRow w.heap.size 4 1 (.slice (some ⟨w.heap.size, 0, none⟩) n n) n (bv (among n (zs.take 0))) := by
    have e := toList_madeCells_one (.bool false) n
    rw [Nat.mul_one] at hown1
    rw [List.take_zero, among_nil, bv, List.map_replicate]
    exact e ▸ hown1
  have hB1 : Below w.heap.size w w1 := (Below.refl _ _).grown hg1 (Nat.le_refl _) (fun _ h => by cases h)
  clear hown1 hg1
  go_loopw [16] (fun i wr => ∃ k : Nat, k ≤ n ∧ i = .int .i64 k ∧ wr.ownsRow w.heap.size 4 1 (.slice (some ⟨w.heap.size, 0, none⟩) n n) n (bv (among n (zs.take k))) ∧ Below w.heap.size w wr) (fun i _ => n - (intOf i).toNat)
  case atStart => exact ⟨0, Nat.zero_le _, rfl, hown, hB1⟩
  case round =>
    obtain ⟨k, hk, rfl, ho, hB⟩ := hrel
    have hsz := hB.size
    by_cases hlt : k < n
    · obtain ⟨b, o, x, rfl, hx, hcx⟩ := (hr.below hB).int_at hlt
      obtain ⟨hx0, hxn⟩ := HZ.out x (List.mem_of_getElem? hx.out)
      obtain ⟨v, rfl⟩ := Int.eq_ofNat_of_zero_le hx0
      have hvn : v < n := by omega
      have hnot : ¬ (v : Int) ∈ zs.take k := by
        intro hin
        obtain ⟨j, hj⟩ := List.getElem?_of_mem hin
        rw [List.getElem?_take] at hj
        split at hj
        · have h1 := (List.getElem?_eq_some_iff.1 hj)
          have h2 := (List.getElem?_eq_some_iff.1 hx.out)
          have := (List.getElem_inj HD.out (h₀ := h1.1) (h₁ := h2.1)).1 (h1.2.trans h2.2.symm)
          omega
        · cases hj
      have hcell : wr.cell? ⟨w.heap.size, v, none⟩ = some (.bool false) := by
        rw [ho.cellAt v (by omega), bv, List.getElem?_map, among_get _ _ _ hvn, decide_eq_false hnot]; rfl
      have hfr := ho.frozenAt v
      have hst := ho.stored v (.bool true)
      have hset : Hid ((bv (among n (zs.take k))).set v (.bool true) = bv (among n (zs.take (k + 1)))) := by
        show _ = _
        rw [List.take_add_one, hx.out, Option.toList_some]
        rw [among_snoc n _ v hvn, bv, bv, List.map_set]
      rw [hset.out] at hst
      clear hx0 hxn
      go_wp2
      go_roundw
      case rel => exact ⟨k + 1, by omega, by go_num, hst.1, hB.grown hst.2 hsz (fun g h => by injection h; omega)⟩
      case measure => simp [intOf]; omega
    · obtain rfl : n = k := by omega
      go_wp2
      go_ret
      exact ⟨rfl, hB⟩
end Go.Proofs.Ytpkhlikeggolbaa
