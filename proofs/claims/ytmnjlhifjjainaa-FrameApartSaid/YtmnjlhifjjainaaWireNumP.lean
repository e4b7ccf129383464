/-
  wire.Number: the walk.
-/
import Derived.Test.YtmnjlhifjjainaaWireNum
import Derived.Test.YtmnjlhifjjainaaDigits
import Derived.OwnWalkIn
import Derived.RangeFuncCalls
import Derived.Shelf.RegionOpen
namespace Go.Proofs.Ytmnjlhifjjainaa
open Go.RowKit Go.Shelf

attribute [local go_sem] Oper.semAt_some

theorem number_no (n : Int) (w : World) (h : n < 0 ∨ 2147483647 < n) :
    Calls Try.prog 61 #[.int .i64 n] w fun e w' => e = .returned (.tuple #[.string ⟨#[]⟩, .int .i64 1]) ∧ w = w' := by
  rcases h with h | h
  · go_enter Try.func61, Try.ntmps61
    go_wp2
    go_ret2
    exact ⟨rfl, rfl⟩
  · have h' : ¬ n < 0 := by omega
    go_enter Try.func61, Try.ntmps61
    go_wp2
    go_ret2
    exact ⟨rfl, rfl⟩

/-- A round's byte. -/
def dByte (p : Nat × Bool) : UInt8 := UInt8.ofNat (if p.2 then p.1 + 128 else p.1)

theorem digs_bytes {n : Nat} {xs : List (Nat × Bool)} (h : Digs n xs) (hn : n ≤ maxNum) : xs.map dByte = numBytes n := by
  induction h with
  | last n h => rw [numBytes_small n (by omega)]; simp [dByte]; congr 1; omega
  | more n xs h t ih =>
    rw [numBytes_big n (by omega) hn, List.map_cons, ih (by omega)]
    simp [dByte, Nat.add_comm]

theorem digs_small {n : Nat} {xs : List (Nat × Bool)} (h : Digs n xs) (hn : n ≤ maxNum) : ∀ p ∈ xs, p.1 < 128 := by
  induction h with
  | last n h => intro p hp; simp at hp; subst hp; show n % 128 < 128; omega
  | more n xs h t ih =>
    intro p hp
    rcases List.mem_cons.1 hp with rfl | hp
    · show n % 128 < 128; omega
    · exact ih (by omega) p hp

/-- A round's end: the longer row is stored into the box. -/
theorem round_end {B0 d : Nat} {mo : Bool} {w W w3 : World} {A : Option Addr} {c g3 c3 : Nat} {pre : List (Nat × Bool)} {u : Value} (hB : Below w.heap.size w W) (hsz : w.heap.size + 2 ≤ W.heap.size)
    (hbx : Boxed W w.heap.size 63 (.slice A pre.length c)) (ho : W.ownsRow (w.heap.size + 2) 5 1 (.slice A pre.length c) pre.length (Lib.byteCells (pre.map dByte)))
    (hne : some w.heap.size ≠ (Value.slice A pre.length c).ownBlock)
    (ho3 : w3.ownsRow (w.heap.size + 2) 5 1 (.slice (some ⟨g3, 0, none⟩) (pre.length + 1) c3) (pre.length + 1) (Lib.byteCells (pre.map dByte) ++ [u]))
    (hg3 : (W.alloc (.cells #[u] 5)).grownBy w3 (Value.slice A pre.length c).ownBlock) (hu : #[u].toList = Lib.byteCells [UInt8.ofNat B0]) (hd : UInt8.ofNat B0 = dByte (d, mo)) :
    KeepsOthers W (w3.setCell ⟨w.heap.size, 0, none⟩ (.slice (some ⟨g3, 0, none⟩) (pre.length + 1) c3)) ∧
    (w3.setCell ⟨w.heap.size, 0, none⟩ (.slice (some ⟨g3, 0, none⟩) (pre.length + 1) c3)).heap[w.heap.size + 1]? = W.heap[w.heap.size + 1]? ∧
    Below w.heap.size w (w3.setCell ⟨w.heap.size, 0, none⟩ (.slice (some ⟨g3, 0, none⟩) (pre.length + 1) c3)) ∧
    w.heap.size + 2 ≤ (w3.setCell ⟨w.heap.size, 0, none⟩ (.slice (some ⟨g3, 0, none⟩) (pre.length + 1) c3)).heap.size ∧
    ∃ A' c', Boxed (w3.setCell ⟨w.heap.size, 0, none⟩ (.slice (some ⟨g3, 0, none⟩) (pre.length + 1) c3)) w.heap.size 63 (.slice A' (pre ++ [(d, mo)]).length c') ∧
      (w3.setCell ⟨w.heap.size, 0, none⟩ (.slice (some ⟨g3, 0, none⟩) (pre.length + 1) c3)).ownsRow (w.heap.size + 2) 5 1 (.slice A' (pre ++ [(d, mo)]).length c') (pre ++ [(d, mo)]).length (Lib.byteCells ((pre ++ [(d, mo)]).map dByte)) := by
  have hgr : (W.alloc (.cells #[u] 5)).heap.size ≤ w3.heap.size := hg3.size
  rw [World.size_alloc] at hgr
  have hb3 : Boxed w3 w.heap.size 63 (.slice A pre.length c) := (hbx.alloc _).kept hg3 hne
  have hown : ∀ k, (Value.slice A pre.length c).ownBlock = some k → w.heap.size + 2 ≤ k ∧ ∃ cs t fr, W.heap[k]? = some (.cells cs t fr) := by
    intro k hk
    rcases ho.2 with ⟨h1, _⟩ | ⟨g, cap, cur, h1, h2, hgb, _⟩
    · rw [h1] at hk; cases hk
    · rw [h1] at hk
      simp [Value.ownBlock] at hk
      subst hk
      exact ⟨h2, _, _, _, hgb⟩
  have hkeep : ∀ k, k < W.heap.size → some k ≠ (Value.slice A pre.length c).ownBlock → k ≠ w.heap.size → (w3.setCell ⟨w.heap.size, 0, none⟩ (.slice (some ⟨g3, 0, none⟩) (pre.length + 1) c3)).heap[k]? = W.heap[k]? := by
    intro k hk h1 h2
    rw [heap_setCell_ne _ _ _ _ h2, hg3.block k (by simp; omega) h1]
    exact Below.heap_alloc W _ k hk
  refine ⟨⟨by simp; omega, fun k o hk hoc => ?_⟩, ?_, ?_, by simp; omega, some ⟨g3, 0, none⟩, c3, ?_, ?_⟩
  · refine (hkeep k (Array.getElem?_eq_some_iff.1 hk).1 (fun e => ?_) (fun e => ?_)).trans hk
    · obtain ⟨_, cs, t, fr, h3⟩ := hown k e.symm
      rw [hk] at h3; cases h3; cases hoc
    · subst e
      rw [show W.heap[w.heap.size]? = _ from hbx] at hk; cases hk; cases hoc
  · refine hkeep _ (by omega) (fun e => ?_) (by omega)
    have := (hown _ e.symm).1
    omega
  · refine ⟨?_, ?_, ?_, ?_, ?_⟩
    · exact hg3.os.trans hB.os
    · exact hg3.tape.trans hB.tape
    · exact hg3.output.trans hB.output
    · have := hB.size; simp; omega
    · intro k hk
      refine (hkeep k (by omega) (fun e => ?_) (by omega)).trans (hB.block k hk)
      have := (hown _ e.symm).1
      omega
  · have := hb3.set (.slice (some ⟨g3, 0, none⟩) (pre.length + 1) c3)
    simpa using this
  · have hl : (pre ++ [(d, mo)]).length = pre.length + 1 := by simp
    rw [hl, List.map_append, bytes_append, List.map_singleton, ← hd, ← hu]
    exact ho3.kept (grownBy_setCell' w3 w.heap.size _) (.inr (by simp [Value.ownBlock]; have := (own_lt ho3 _ rfl).1; simp at this; omega))

set_option maxRecDepth 100000 in
set_option maxHeartbeats 2000000 in
theorem number_c (n : Nat) (w : World) (h : n ≤ maxNum) :
    Calls Try.prog 61 #[.int .i64 n] w fun e w' => e = .returned (.tuple #[.string ⟨(numBytes n).toArray⟩, .int .i64 0]) ∧ Below w.heap.size w w' := by
  rw [← callsIn_wide (n := 10)]
  have hmax : n ≤ 2147483647 := h
  have d1 : decide ((n : Int) < 0) = false := by simp
  refine callsIn_of_wp_marks Try.func61 rfl trivial ?_ rfl
  simp only [Try.ntmps61, List.size_toArray, List.length_cons, List.length_nil, Nat.reduceAdd, Nat.reduceSub, Array.replicate_succ, Array.replicate_zero, List.push_toArray, List.append_toArray, List.nil_append, List.cons_append]
  have HM := Lib.hid h
  gi_wp2_with (fail)
  refine ⟨trivial, (callsIn_wide.2 (digits_c n _)).mono ?_⟩
  rintro e w' ⟨rfl, rfl⟩
  gi_wp2_with (fail)
  have hB0 : Below w.heap.size w ((w.alloc (.cells #[.slice none 0 0] 63)).alloc (.cells #[.int .i64 n] 3)) := ((Below.refl _ w).alloc (Nat.le_refl _) _).alloc (by simp) _
  have hbox : Boxed ((w.alloc (.cells #[.slice none 0 0] 63)).alloc (.cells #[.int .i64 n] 3)) w.heap.size 63 (.slice none 0 0) := (Boxed.new w 63 _).alloc _
  have hbn : Boxed ((w.alloc (.cells #[.slice none 0 0] 63)).alloc (.cells #[.int .i64 n] 3)) (w.heap.size + 1) 3 (.int .i64 n) := by
    have := Boxed.new (w.alloc (.cells #[.slice none 0 0] 63)) 3 (.int .i64 n)
    simpa using this
  refine wpIn_range_state rfl (by omega) (gf := 123) (lb := #[.pointer (some ⟨w.heap.size + 1, 0, none⟩)]) rfl trivial (enters_of Try.func123 (by kernel_rfl) rfl)
    (encs := dEncs) (Bn := w.heap.size + 1) (S := Digs n) (digits_gives _ _ trivial rfl (by omega) n _ _ hbn h) (by simp) (fun _ => rfl)
    (fun pre X => Below w.heap.size w X ∧ w.heap.size + 2 ≤ X.heap.size ∧ ∃ A c, Boxed X w.heap.size 63 (.slice A pre.length c) ∧ X.ownsRow (w.heap.size + 2) 5 1 (.slice A pre.length c) pre.length (Lib.byteCells (pre.map dByte)))
    ?own ?set ?start (fun x => { tmps := #[.int .i64 n, undef, .string ⟨#[]⟩, .int .i64 0, .pointer (some ⟨w.heap.size, 0, none⟩), .int .i64 x.1, .bool x.2, .int .i64 n, .bool false, .bool false, .int .i64 n,
      .bool (decide (2147483647 < (n : Int))), .bool (decide (2147483647 < (n : Int))), .int .i64 n, .func (.func 123) #[] #[.pointer (some ⟨w.heap.size + 1, 0, none⟩)],
      .int .i64 x.1, .bool x.2, undef, undef, undef, undef, undef, undef, undef, undef, undef, undef], defers := [] }) ?assign ?body ?done
  case assign =>
    intro l x W K hK
    gi_wp2_with (fail)
    exact hK
  case start => exact ⟨hB0, by simp, none, 0, hbox, own_nil⟩
  case set =>
    rintro pre X v ⟨hB, hsz, A, c, hbx, ho⟩
    refine ⟨hB.setCell (by simp) v, by simpa using hsz, A, c, hbx.kept (grownBy_setCell' X _ v) (by simp), ho.kept (grownBy_setCell' X _ v) ?_⟩
    rw [own_block]
    cases hA : A with
    | none => simp
    | some a => right; have := (own_lt ho a hA).1; simp; omega
  case own =>
    rintro pre X Y row ⟨hB, hsz, A, c, hbx, ho⟩ hg hr
    have hcl : ∀ g : Nat, g < X.heap.size → (∃ cs t fr, X.heap[g]? = some (.cells cs t fr)) → some g ≠ row := by
      rintro g _ ⟨cs, t, fr, hx⟩ e'
      obtain ⟨_, o, ho', hc'⟩ := hr g e'.symm
      rw [hx] at ho'; cases ho'; cases hc'
    refine ⟨hB.grown hg hB.size (fun k e => by have := (hr k e).1; simp at this; omega), Nat.le_trans hsz hg.size, A, c, hbx.kept hg (hcl _ hbx.lt ⟨_, _, _, hbx⟩), ho.kept hg ?_⟩
    rw [own_block]
    cases hA : A with
    | none => simp
    | some a =>
      right
      subst hA
      rcases ho.2 with ⟨h1, _⟩ | ⟨g, cap, cur, h1, _, hgb, _⟩
      · cases h1
      · cases h1
        exact hcl _ (Array.getElem?_eq_some_iff.1 hgb).1 ⟨_, _, _, hgb⟩
  case body =>
    rintro l pre ⟨d, mo⟩ W ⟨hB, hsz, A, c, hbx, ho⟩ ⟨xs, hdx⟩
    have hd : d < 128 := digs_small hdx h (d, mo) (by simp)
    have hlen : pre.length ≤ 4 := by
      have h1 := digs_bytes hdx h
      have h2 := (numBytes_len n).2
      rw [← h1] at h2
      simp at h2; omega
    have hc := hbx.cell
    have hf := hbx.frozen
    have hne : some w.heap.size ≠ (Value.slice A pre.length c).ownBlock := by
      rw [own_block]
      cases hA : A with
      | none => simp
      | some a => have := (own_lt ho a hA).1; simp; omega
    obtain ⟨i0, z0, hi, hz, hsz0, hby, hzs⟩ := elByte.info
    cases mo
    · gi_wp2_with (gi_at_builtin; refine wpListIn_append_own _ rfl _ _ 63 rfl (w.heap.size + 2) 5 i0 z0 1 1 elByte.under hi hz hsz0 hby hzs elByte.pos _ _ _ rfl (ho.alloc _) ⟨W.heap.size, 0, none⟩ 1 1 [.int .u8 d] rfl rfl (cell_one_new _ _ _) (by simp [Value.oneCell']) (by unfold maxLen; omega) (by omega) (by simp; omega) ?_; intro v' w3 ho3 hg3 _; obtain ⟨g3, c3, rfl⟩ := ownsRow_succ ho3; have hb3 : Boxed w3 w.heap.size 63 (.slice A pre.length c) := (hbx.alloc _).kept hg3 hne; have hc3 := hb3.cell; have hf3 := hb3.frozen)
      have R := round_end (d := d) (mo := false) hB hsz hbx ho hne ho3 hg3 (bytes_one d _ (by omega) (by simp)) rfl
      simpa using R
    · gi_wp2_with (gi_at_builtin; refine wpListIn_append_own _ rfl _ _ 63 rfl (w.heap.size + 2) 5 i0 z0 1 1 elByte.under hi hz hsz0 hby hzs elByte.pos _ _ _ rfl (ho.alloc _) ⟨W.heap.size, 0, none⟩ 1 1 [.int .u8 (d + 128)] rfl rfl (cell_one_new _ _ _) (by simp [Value.oneCell']) (by unfold maxLen; omega) (by omega) (by simp; omega) ?_; intro v' w3 ho3 hg3 _; obtain ⟨g3, c3, rfl⟩ := ownsRow_succ ho3; have hb3 : Boxed w3 w.heap.size 63 (.slice A pre.length c) := (hbx.alloc _).kept hg3 hne; have hc3 := hb3.cell; have hf3 := hb3.frozen)
      have R := round_end (d := d) (mo := true) hB hsz hbx ho hne ho3 hg3 (bytes_one (d + 128) _ (by omega) (by simp)) rfl
      simpa using R
  case done =>
    rintro D xs W hD hS ⟨hB, hsz, A, c, hbx, ho⟩ hK
    have hx := digs_bytes hS h
    have hlen : 0 < xs.length := by
      have h2 := (numBytes_len n).1
      rw [← hx] at h2
      have h3 : xs.length = (xs.map dByte).length := by simp
      omega
    rw [hx] at ho
    have hcv := convert_own ho hlen
    have hc := hbx.cell
    have hf := hbx.frozen
    gi_wp2_with (fail)
    refine ⟨by simp, .inl ⟨_, _, rfl, run_takeDeferred hK, ?_⟩⟩
    refine ⟨_, results_tmp2 rfl _ _ _, rfl, ?_⟩
    exact hB.grown (grownBy_putObj' W D (.deferred none)) hB.size (fun k e => by cases e; simp at hD; omega)
end Go.Proofs.Ytmnjlhifjjainaa
