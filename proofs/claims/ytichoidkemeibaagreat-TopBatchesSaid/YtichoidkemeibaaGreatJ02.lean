/-
  slices.SortFunc at states: the kit's contract, laid at this program (written by the kit's lay-plain).
  The walks of Own and Same of messages (for a seat without turn).
  What may be, what stands ahead, whose home: the small functions.
  Plain laws of chapter 4: rows of places. No program in sight.
  The pairs of rows, in order: plain laws.
-/
import Derived.Test.YtichoidkemeibaaGreatProg
import Derived.Test.YtichoidkemeibaaGreatJ01
import Derived.Shelf.SlSortCmp.WholeK
namespace Go.Proofs.YtichoidkemeibaaGreat
open Go.Shelf
def sortSt_ren : Go.Shelf.Ren := ⟨fun | 6 => 51 | 15 => 92 | 14 => 91 | 28 => 133 | 29 => 134 | 20 => 125 | 21 => 126 | 22 => 127 | 23 => 128 | 24 => 129 | 25 => 130 | 26 => 131 | 27 => 132 | 46 => 147 | 47 => 148 | 48 => 149 | 49 => 150 | 50 => 151 | 57 => 168 | n => n, fun | 22 => 33 | 24 => 43 | 25 => 99 | 3 => 3 | 39 => 113 | 0 => 0 | 53 => 181 | 55 => 183 | 4 => 4 | 46 => 175 | 45 => 174 | 50 => 65 | 5 => 5 | 9 => 9 | 66 => 198 | 70 => 202 | 76 => 213 | 77 => 214 | n => n, fun | n => n⟩
theorem sortSt : Go.Proofs.SlLaysF0.n6 Tryz.prog sortSt_ren := {
  mixed := by kernel_rfl
  f6 := ⟨Tryz.f51.name, by decide, Tryz.func51.trans (congrArg some (by kernel_rfl))⟩
  f14 := ⟨Tryz.f91.name, by decide, Tryz.func91.trans (congrArg some (by kernel_rfl))⟩
  f15 := Tryz.func92.trans (congrArg some (by kernel_rfl))
  f20 := ⟨Tryz.f125.name, by decide, Tryz.func125.trans (congrArg some (by kernel_rfl))⟩
  f21 := ⟨Tryz.f126.name, by decide, Tryz.func126.trans (congrArg some (by kernel_rfl))⟩
  f22 := ⟨Tryz.f127.name, by decide, Tryz.func127.trans (congrArg some (by kernel_rfl))⟩
  f23 := ⟨Tryz.f128.name, by decide, Tryz.func128.trans (congrArg some (by kernel_rfl))⟩
  f24 := ⟨Tryz.f129.name, by decide, Tryz.func129.trans (congrArg some (by kernel_rfl))⟩
  f25 := ⟨Tryz.f130.name, by decide, Tryz.func130.trans (congrArg some (by kernel_rfl))⟩
  f26 := ⟨Tryz.f131.name, by decide, Tryz.func131.trans (congrArg some (by kernel_rfl))⟩
  f27 := ⟨Tryz.f132.name, by decide, Tryz.func132.trans (congrArg some (by kernel_rfl))⟩
  f28 := Tryz.func133.trans (congrArg some (by kernel_rfl))
  f29 := Tryz.func134.trans (congrArg some (by kernel_rfl))
  f46 := ⟨Tryz.f147.name, by decide, Tryz.func147.trans (congrArg some (by kernel_rfl))⟩
  f47 := Tryz.func148.trans (congrArg some (by kernel_rfl))
  f48 := Tryz.func149.trans (congrArg some (by kernel_rfl))
  f49 := ⟨Tryz.f150.name, by decide, Tryz.func150.trans (congrArg some (by kernel_rfl))⟩
  f50 := ⟨Tryz.f151.name, by decide, Tryz.func151.trans (congrArg some (by kernel_rfl))⟩
  f57 := ⟨Tryz.f168.name, by decide, Tryz.func168.trans (congrArg some (by kernel_rfl))⟩
  t0 := Tryz.underlying0
  a0 := Tryz.isAgg0
  z0 := Tryz.sizeOf0
  v0 := Tryz.zeroValue0
  t3 := Tryz.underlying3
  a3 := Tryz.isAgg3
  z3 := Tryz.sizeOf3
  v3 := Tryz.zeroValue3
  t4 := Tryz.underlying4
  a4 := Tryz.isAgg4
  z4 := Tryz.sizeOf4
  v4 := Tryz.zeroValue4
  t5 := Tryz.underlying5
  a5 := Tryz.isAgg5
  z5 := Tryz.sizeOf5
  v5 := Tryz.zeroValue5
  t9 := Tryz.underlying9
  a9 := Tryz.isAgg9
  z9 := Tryz.sizeOf9
  v9 := Tryz.zeroValue9
  t22 := Tryz.underlying33
  a22 := Tryz.isAgg33
  z22 := Tryz.sizeOf33
  v22 := Tryz.zeroValue33
  t25 := Tryz.underlying99
  a25 := Tryz.isAgg99
  z25 := Tryz.sizeOf99
  v25 := Tryz.zeroValue99
  t39 := Tryz.underlying113
  a39 := Tryz.isAgg113
  z39 := Tryz.sizeOf113
  v39 := Tryz.zeroValue113
  t45 := Tryz.underlying174
  a45 := Tryz.isAgg174
  z45 := Tryz.sizeOf174
  v45 := Tryz.zeroValue174
  t46 := Tryz.underlying175
  a46 := Tryz.isAgg175
  z46 := Tryz.sizeOf175
  v46 := Tryz.zeroValue175
  t50 := Tryz.underlying65
  a50 := Tryz.isAgg65
  z50 := Tryz.sizeOf65
  v50 := Tryz.zeroValue65
  t53 := Tryz.underlying181
  a53 := Tryz.isAgg181
  z53 := Tryz.sizeOf181
  v53 := Tryz.zeroValue181
  t55 := Tryz.underlying183
  a55 := Tryz.isAgg183
  z55 := Tryz.sizeOf183
  v55 := Tryz.zeroValue183
  t66 := Tryz.underlying198
  a66 := Tryz.isAgg198
  z66 := Tryz.sizeOf198
  v66 := Tryz.zeroValue198
  t70 := Tryz.underlying202
  a70 := Tryz.isAgg202
  z70 := Tryz.sizeOf202
  v70 := Tryz.zeroValue202
  t76 := Tryz.underlying213
  a76 := Tryz.isAgg213
  z76 := Tryz.sizeOf213
  v76 := Tryz.zeroValue213
  t77 := Tryz.underlying214
  a77 := Tryz.isAgg214
  z77 := Tryz.sizeOf214
  v77 := Tryz.zeroValue214 }
end Go.Proofs.YtichoidkemeibaaGreat

namespace Go.Proofs.YtichoidkemeibaaGreat
open Go.RowKit

theorem own16_c (A : Option Addr) (n c : Nat) (xs : List Msg) (w : World) (h1 : Reads w w.heap.size 4 A n (mv xs)) (hn : n * 32 ≤ 140737488355328) :
    Calls Tryz.prog 19 #[.slice A n c] w fun e w' => ∃ A' c', e = .returned (.slice A' n c') ∧ w'.ownsRow w.heap.size 44 4 (.slice A' n c') n (mv xs) ∧ Below w.heap.size w w' := by
  go_enter Tryz.func19, Tryz.ntmps19
  go_wp2_with (at_builtin; refine wpList_cat elMail rfl _ _ rfl (own_nil (base := w.heap.size)) rfl h1 rfl (mv_one _) (by unfold maxLen; omega) (by omega) (Nat.le_refl _) ?_; intro A1 c1 w1 hown p1)
  go_ret
  exact ⟨A1, c1, rfl, by simpa using hown, p1.below0 (Below.refl _ _) (Nat.le_refl _)⟩

def mval (m : Msg) : Value := .agg #[.int .i64 m.slot, .int .i64 m.dir, .int .i64 m.v, .int .i64 m.d]

theorem run_neq_mail (x y : Msg) (h : x ≠ y) (w : World) :
    (binOp .neq 44 (.agg #[.int .i64 x.slot, .int .i64 x.dir, .int .i64 x.v, .int .i64 x.d]) (.agg #[.int .i64 y.slot, .int .i64 y.dir, .int .i64 y.v, .int .i64 y.d])).run Tryz.prog w = .ok (.bool true) w := by
  have h' : ¬ (x.slot = y.slot ∧ x.dir = y.dir ∧ x.v = y.v ∧ x.d = y.d) := fun e => h ((Msg.eq_iff _ _).2 e)
  have H := Lib.hid h'
  clear h h'
  go_simp
  by_cases e1 : x.slot = y.slot
  · by_cases e2 : x.dir = y.dir
    · by_cases e3 : x.v = y.v
      · by_cases e4 : x.d = y.d
        · exact absurd ⟨e1, e2, e3, e4⟩ H.out
        · simp [e1, e2, e3, e4]
      · simp [e1, e2, e3]
    · simp [e1, e2]
  · simp [e1]

theorem run_eql_mail (x y : Msg) (h : x ≠ y) (w : World) :
    (binOp .eql 44 (.agg #[.int .i64 x.slot, .int .i64 x.dir, .int .i64 x.v, .int .i64 x.d]) (.agg #[.int .i64 y.slot, .int .i64 y.dir, .int .i64 y.v, .int .i64 y.d])).run Tryz.prog w = .ok (.bool false) w := by
  have h' : ¬ (x.slot = y.slot ∧ x.dir = y.dir ∧ x.v = y.v ∧ x.d = y.d) := fun e => h ((Msg.eq_iff _ _).2 e)
  have H := Lib.hid h'
  clear h h'
  go_simp
  by_cases e1 : x.slot = y.slot
  · by_cases e2 : x.dir = y.dir
    · by_cases e3 : x.v = y.v
      · by_cases e4 : x.d = y.d
        · exact absurd ⟨e1, e2, e3, e4⟩ H.out
        · simp [e1, e2, e3, e4]
      · simp [e1, e2, e3]
    · simp [e1, e2]
  · simp [e1]

theorem same16_c (A1 A2 : Option Addr) (n1 n2 c1 c2 : Nat) (xs ys : List Msg) (w : World) (h1 : Reads w w.heap.size 4 A1 n1 (mv xs)) (h2 : Reads w w.heap.size 4 A2 n2 (mv ys)) (hn1 : n1 ≤ maxLen) (hn2 : n2 ≤ maxLen) :
    Calls Tryz.prog 24 #[.slice A1 n1 c1, .slice A2 n2 c2] w fun e w' => e = .returned (.bool (decide (xs = ys))) ∧ Below w.heap.size w w' := by
  have l1 := h1.mail_len
  have l2 := h2.mail_len
  unfold maxLen at hn1 hn2
  by_cases hn : n1 = n2
  · subst hn
    go_enter Tryz.func24, Tryz.ntmps24
    go_wp2
    go_loopw [5] (fun i wr => ∃ k : Nat, k ≤ n1 ∧ i = .int .i64 k ∧ Hid (xs.take k = ys.take k) ∧ Below w.heap.size w wr) (fun i _ => n1 - (intOf i).toNat)
    case atStart => exact ⟨0, Nat.zero_le _, rfl, rfl, Below.refl _ _⟩
    case round =>
      obtain ⟨k, hk, rfl, ht, hB⟩ := hrel
      by_cases hlt : k < n1
      · obtain ⟨a1, o1, x, rfl, hx, hc10, hc11, hc12, hc13⟩ := (h1.below hB).mail_at hlt
        obtain ⟨a2, o2, y, rfl, hy, hc20, hc21, hc22, hc23⟩ := (h2.below hB).mail_at hlt
        clear h1 h2
        have L1 := Lib.hid l1
        have L2 := Lib.hid l2
        clear l1 l2
        by_cases hxy : x = y
        · subst hxy
          go_wp2
          go_quiet (fail)
          go_wp2
          go_roundw
          case rel =>
            refine ⟨k + 1, by omega, by go_num, ?_, below_drewN hB _⟩
            show _ = _
            rw [List.take_add_one, List.take_add_one, ht.out, hx.out, hy.out]
          case measure => simp [intOf]; omega
        · have hrun := run_neq_mail x y hxy
          have hxy := Lib.hid hxy
          go_wp2
          go_quiet (fail)
          go_wp2
          have hf : ¬ xs = ys := fun e => hxy.out (by
            have e1 := hx.out
            rw [e, hy.out] at e1
            injection e1 with e1; exact e1.symm)
          go_ret
          exact ⟨ret_bool (decide_eq_false hf).symm, below_drewN hB _⟩
      · obtain rfl : n1 = k := by omega
        have hf : Hid (xs = ys) := by
          have := ht.out
          rw [List.take_of_length_le (by omega), List.take_of_length_le (by omega)] at this
          exact this
        clear l1 l2
        go_wp2
        go_ret
        exact ⟨ret_bool (decide_eq_true hf.out).symm, hB⟩
  · have hf : Hid (¬ xs = ys) := fun e => hn (by rw [← l1, ← l2, e])
    clear l1 l2
    go_enter Tryz.func24, Tryz.ntmps24
    go_wp2
    go_ret
    exact ⟨ret_bool (decide_eq_false hf.out).symm, Below.refl _ _⟩
end Go.Proofs.YtichoidkemeibaaGreat

namespace Go.Proofs.YtichoidkemeibaaGreat
open Go.RowKit

def mayK (m : Msg) : Prop := (0 ≤ m.slot ∧ m.slot ≤ 1000) ∧ (m.dir = 0 ∨ m.dir = 1) ∧ (0 ≤ m.v ∧ m.v < 200)
instance (m : Msg) : Decidable (mayK m) := by unfold mayK; infer_instance
def mayM (m : Msg) : Prop := mayK m ∧ (0 ≤ m.d ∧ m.d ≤ 200)
instance (m : Msg) : Decidable (mayM m) := by unfold mayM; infer_instance
def allMay (l : List Msg) : Prop := ∀ m ∈ l, mayM m
instance (l : List Msg) : Decidable (allMay l) := by unfold allMay; infer_instance

theorem below_two (w : World) (o1 o2 : Obj) : Below w.heap.size w ((w.alloc o1).alloc o2) := ((Below.refl _ _).alloc (Nat.le_refl _) _).alloc (by simp) _
theorem below_one (w : World) (o1 : Obj) : Below w.heap.size w (w.alloc o1) := (Below.refl _ _).alloc (Nat.le_refl _) _

set_option maxHeartbeats 2000000 in
theorem less14_c (x y : Msg) (w : World) : Calls Tryz.prog 70 #[.agg #[.int .i64 x.slot, .int .i64 x.dir, .int .i64 x.v], .agg #[.int .i64 y.slot, .int .i64 y.dir, .int .i64 y.v]] w fun e w' => e = .returned (.bool (decide (kless x y))) ∧ Below w.heap.size w w' := by
  go_enter Tryz.func70, Tryz.ntmps70
  go_wp2
  all_goals go_ret
  all_goals refine ⟨ret_bool ?_, below_two _ _ _⟩
  all_goals unfold kless
  all_goals first | (refine Eq.symm (decide_eq_true ?_); omega) | (refine Eq.symm (decide_eq_false ?_); omega) | (refine decide_eq_decide.2 ?_; omega) | trace_state

set_option maxHeartbeats 2000000 in
theorem may14_c (x : Msg) (w : World) : Calls Tryz.prog 101 #[.agg #[.int .i64 x.slot, .int .i64 x.dir, .int .i64 x.v]] w fun e w' => e = .returned (.bool (decide (mayK x))) ∧ Below w.heap.size w w' := by
  go_enter Tryz.func101, Tryz.ntmps101
  go_wp2
  all_goals go_ret
  all_goals refine ⟨ret_bool ?_, below_one _ _⟩
  all_goals unfold mayK
  all_goals first | (refine Eq.symm (decide_eq_true ?_); omega) | (refine Eq.symm (decide_eq_false ?_); omega) | (refine decide_eq_decide.2 ?_; omega) | trace_state

set_option maxHeartbeats 2000000 in
theorem may16_c (x : Msg) (w : World) : Calls Tryz.prog 98 #[.agg #[.int .i64 x.slot, .int .i64 x.dir, .int .i64 x.v, .int .i64 x.d]] w fun e w' => e = .returned (.bool (decide (mayM x))) ∧ Below w.heap.size w w' := by
  go_enter Tryz.func98, Tryz.ntmps98
  go_wp2_with (go_at_call 101; refine (may14_c x _).mono ?_; rintro e w3 ⟨rfl, hB3⟩; have d3 : w3.cell? ⟨w.heap.size, 3, none⟩ = some (.int .i64 x.d) := by rw [hB3.cell (by simp)]; simp)
  all_goals have hBB := (below_one w (.cells #[.int .i64 x.slot, .int .i64 x.dir, .int .i64 x.v, .int .i64 x.d] 44)).trans (hB3.mono (by simp))
  all_goals go_ret
  all_goals refine ⟨ret_bool ?_, hBB⟩
  all_goals unfold mayM
  all_goals first | (refine decide_eq_decide.2 ⟨fun h => ⟨by assumption, by omega, h⟩, fun h => h.2.2⟩) | (refine Eq.symm (decide_eq_false fun h => ?_); first | omega | exact absurd h.1 (by assumption))

set_option maxHeartbeats 2000000 in
theorem may_c (x : Msg) (w : World) : Calls Tryz.prog 86 #[.agg #[.int .i64 x.slot, .int .i64 x.dir, .int .i64 x.v, .int .i64 x.d]] w fun e w' => e = .returned (.bool (decide (mayM x))) ∧ Below w.heap.size w w' := by
  go_enter Tryz.func86, Tryz.ntmps86
  go_wp2
  all_goals go_ret
  all_goals refine ⟨ret_bool ?_, below_two _ _ _⟩
  all_goals unfold mayM mayK
  all_goals first | (refine Eq.symm (decide_eq_true ?_); omega) | (refine Eq.symm (decide_eq_false ?_); omega) | (refine decide_eq_decide.2 ?_; omega) | trace_state

theorem check16_c (A : Option Addr) (n c : Nat) (xs : List Msg) (w : World) (h1 : Reads w w.heap.size 4 A n (mv xs)) (hn1 : n ≤ maxLen) :
    Calls Tryz.prog 57 #[.slice A n c] w fun e w' => e = .returned (.bool (decide (allMay xs))) ∧ Below w.heap.size w w' := by
  have l1 := h1.mail_len
  unfold maxLen at hn1
  go_enter Tryz.func57, Tryz.ntmps57
  go_wp2_with (fail)
  go_loopw [3] (fun i wr => ∃ k : Nat, k ≤ n ∧ i = .int .i64 k ∧ Hid (allMay (xs.take k)) ∧ Below w.heap.size w wr) (fun i _ => n - (intOf i).toNat)
  case atStart => exact ⟨0, Nat.zero_le _, rfl, fun m hm => by simp at hm, Below.refl _ _⟩
  case round =>
    obtain ⟨k, hk, rfl, ht, hB⟩ := hrel
    by_cases hlt : k < n
    · obtain ⟨a1, o1, x, rfl, hx, hc10, hc11, hc12, hc13⟩ := (h1.below hB).mail_at hlt
      clear h1
      have L1 := Lib.hid l1
      clear l1
      go_wp2_with (fail)
      refine (may16_c x _).mono ?_
      rintro e w3 ⟨rfl, hB3⟩
      have hBB := hB.trans (hB3.mono hB.size)
      clear hB3
      by_cases hm : mayM x
      · have hd : decide (mayM x) = true := decide_eq_true hm
        rw [hd]
        have HM := Lib.hid hm
        clear hm hd
        go_wp2_with (fail)
        go_roundw
        case rel =>
          refine ⟨k + 1, by omega, by go_num, fun m hm => ?_, hBB⟩
          rw [List.take_add_one, hx.out] at hm
          rcases List.mem_append.1 hm with h | h
          · exact ht.out m h
          · simp at h; subst h; exact HM.out
        case measure => simp [intOf]; omega
      · have hd : decide (mayM x) = false := decide_eq_false hm
        rw [hd]
        have HM := Lib.hid hm
        clear hm hd
        go_wp2_with (fail)
        go_ret
        exact ⟨ret_bool (decide_eq_false fun h => HM.out (h x (List.mem_of_getElem? hx.out))).symm, hBB⟩
    · obtain rfl : n = k := by omega
      have hf : Hid (allMay xs) := by
        have := ht.out
        rw [List.take_of_length_le (by omega)] at this
        exact this
      clear l1
      go_wp2_with (fail)
      go_ret
      exact ⟨ret_bool (decide_eq_true hf.out).symm, hB⟩

theorem check_c (A : Option Addr) (n c : Nat) (xs : List Msg) (w : World) (h1 : Reads w w.heap.size 4 A n (mv xs)) (hn1 : n ≤ maxLen) :
    Calls Tryz.prog 46 #[.slice A n c] w fun e w' => e = .returned (.bool (decide (allMay xs))) ∧ Below w.heap.size w w' := by
  have l1 := h1.mail_len
  unfold maxLen at hn1
  go_enter Tryz.func46, Tryz.ntmps46
  go_wp2_with (fail)
  go_loopw [7] (fun i wr => ∃ k : Nat, k ≤ n ∧ i = .int .i64 k ∧ Hid (allMay (xs.take k)) ∧ Below w.heap.size w wr) (fun i _ => n - (intOf i).toNat)
  case atStart => exact ⟨0, Nat.zero_le _, rfl, fun m hm => by simp at hm, Below.refl _ _⟩
  case round =>
    obtain ⟨k, hk, rfl, ht, hB⟩ := hrel
    by_cases hlt : k < n
    · obtain ⟨a1, o1, x, rfl, hx, hc10, hc11, hc12, hc13⟩ := (h1.below hB).mail_at hlt
      clear h1
      have L1 := Lib.hid l1
      clear l1
      go_wp2_with (fail)
      refine (may_c x _).mono ?_
      rintro e w3 ⟨rfl, hB3⟩
      have hBB := (hB.alloc hB.size _).trans (hB3.mono (by simp; have := hB.size; omega))
      clear hB3
      by_cases hm : mayM x
      · have hd : decide (mayM x) = true := decide_eq_true hm
        rw [hd]
        have HM := Lib.hid hm
        clear hm hd
        go_wp2_with (fail)
        go_roundw
        case rel =>
          refine ⟨k + 1, by omega, by go_num, fun m hm => ?_, hBB⟩
          rw [List.take_add_one, hx.out] at hm
          rcases List.mem_append.1 hm with h | h
          · exact ht.out m h
          · simp at h; subst h; exact HM.out
        case measure => simp [intOf]; omega
      · have hd : decide (mayM x) = false := decide_eq_false hm
        rw [hd]
        have HM := Lib.hid hm
        clear hm hd
        go_wp2_with (fail)
        go_ret
        exact ⟨ret_bool (decide_eq_false fun h => HM.out (h x (List.mem_of_getElem? hx.out))).symm, hBB⟩
    · obtain rfl : n = k := by omega
      have hf : Hid (allMay xs) := by
        have := ht.out
        rw [List.take_of_length_le (by omega)] at this
        exact this
      clear l1
      go_wp2_with (fail)
      go_ret
      exact ⟨ret_bool (decide_eq_true hf.out).symm, hB⟩

/-- Whose home a place is. -/
def homeOk (v k : Int) : Prop := (0 ≤ v ∧ v ≤ 1000000) ∧ (1 ≤ k ∧ k ≤ 16)
instance (v k : Int) : Decidable (homeOk v k) := by unfold homeOk; infer_instance
def homeI (v k : Int) : Int := if homeOk v k then (v * 40503 + 12345) % 65536 % k else 0

theorem home_no (f : Nat) (v k : Int) (w : World) (hf : f = 61 ∨ f = 64) (h : ¬ homeOk v k) : Calls Tryz.prog f #[.int .i64 v, .int .i64 k] w fun e w' => e = .returned (.tuple #[.int .i64 (homeI v k), .bool (decide (homeOk v k))]) ∧ Below w.heap.size w w' := by
  have e1 : homeI v k = 0 := by unfold homeI; rw [if_neg h]
  have e2 : decide (homeOk v k) = false := decide_eq_false h
  rw [e1, e2]
  have h' : v < 0 ∨ 1000000 < v ∨ k < 1 ∨ 16 < k := by unfold homeOk at h; omega
  clear h e1 e2
  rcases hf with rfl | rfl
  · go_enter Tryz.func61, Tryz.ntmps61
    go_wp2_with (fail)
    all_goals go_ret2
    all_goals exact ⟨rfl, Below.refl _ _⟩
  · go_enter Tryz.func64, Tryz.ntmps64
    go_wp2_with (fail)
    all_goals go_ret2
    all_goals exact ⟨rfl, Below.refl _ _⟩

theorem home_yes (f : Nat) (v k : Int) (w : World) (hf : f = 61 ∨ f = 64) (h : homeOk v k) : Calls Tryz.prog f #[.int .i64 v, .int .i64 k] w fun e w' => e = .returned (.tuple #[.int .i64 (homeI v k), .bool (decide (homeOk v k))]) ∧ Below w.heap.size w w' := by
  have e1 : Hid (homeI v k = (v * 40503 + 12345) % 65536 % k) := by show _ = _; unfold homeI; rw [if_pos h]
  have e2 : decide (homeOk v k) = true := decide_eq_true h
  rw [e2]
  obtain ⟨⟨h1, h2⟩, h3, h4⟩ := h
  clear e2
  rcases hf with rfl | rfl
  · go_enter Tryz.func61, Tryz.ntmps61
    go_wp2_with (fail)
    go_ret2
    exact ⟨by rw [e1.out]; rfl, Below.refl _ _⟩
  · go_enter Tryz.func64, Tryz.ntmps64
    go_wp2_with (fail)
    go_ret2
    exact ⟨by rw [e1.out]; rfl, Below.refl _ _⟩

theorem home_c (v k : Int) (w : World) : Calls Tryz.prog 61 #[.int .i64 v, .int .i64 k] w fun e w' => e = .returned (.tuple #[.int .i64 (homeI v k), .bool (decide (homeOk v k))]) ∧ Below w.heap.size w w' := by
  by_cases h : homeOk v k
  · exact home_yes _ v k w (.inl rfl) h
  · exact home_no _ v k w (.inl rfl) h
theorem home06_c (v k : Int) (w : World) : Calls Tryz.prog 64 #[.int .i64 v, .int .i64 k] w fun e w' => e = .returned (.tuple #[.int .i64 (homeI v k), .bool (decide (homeOk v k))]) ∧ Below w.heap.size w w' := by
  by_cases h : homeOk v k
  · exact home_yes _ v k w (.inr rfl) h
  · exact home_no _ v k w (.inr rfl) h
end Go.Proofs.YtichoidkemeibaaGreat

namespace Go.Proofs.YtichoidkemeibaaGreat

/-- Rows: offsets and numbers, of what a place leads to and of what leads to it. -/
structure Rws where
  off : List Int
  to : List Int
  roff : List Int
  rev : List Int
deriving DecidableEq
/-- The number of places. -/
def Rws.n (r : Rws) : Nat := r.off.length - 1
/-- A number of a row, 0 beyond it. -/
def nth (l : List Int) (v : Nat) : Int := l.getD v 0
theorem nth_is {l : List Int} {v : Nat} {x : Int} (h : l[v]? = some x) : nth l v = x := by unfold nth; rw [List.getD_eq_getElem?_getD, h]; rfl
theorem nth_some {l : List Int} {v : Nat} (h : v < l.length) : l[v]? = some (nth l v) := by
  unfold nth
  rw [List.getD_eq_getElem?_getD, List.getElem?_eq_getElem h]
  rfl
/-- A part of a row. -/
def cutI (l : List Int) (a b : Int) : List Int := (l.take b.toNat).drop a.toNat
/-- What a place's row holds. -/
def rowR (off to : List Int) (v : Nat) : List Int := cutI to (nth off v) (nth off (v + 1))
def incr : List Int → Prop
  | [] => True
  | [_] => True
  | x :: y :: r => x < y ∧ incr (y :: r)
instance decIncr : (l : List Int) → Decidable (incr l)
  | [] => isTrue trivial
  | [_] => isTrue trivial
  | x :: y :: r => by unfold incr; exact @instDecidableAnd _ _ inferInstance (decIncr (y :: r))
/-- Offsets never fall. -/
def climbs (off : List Int) : Prop := ∀ v, v + 1 < off.length → nth off v ≤ nth off (v + 1)
instance (off : List Int) : Decidable (climbs off) := decidable_of_iff (∀ v ∈ List.range off.length, v + 1 < off.length → nth off v ≤ nth off (v + 1))
  ⟨fun h v hv => h v (List.mem_range.2 (by omega)) hv, fun h v _ hv => h v hv⟩
/-- A place's row is right. -/
def goodRowI (n : Nat) (l : List Int) : Prop := (∀ w ∈ l, 0 ≤ w ∧ w < (n : Int)) ∧ incr l
instance (n : Nat) (l : List Int) : Decidable (goodRowI n l) := by unfold goodRowI; infer_instance
/-- Offsets and numbers are of the right size. -/
def shapeR (off to : List Int) : Prop := (2 ≤ off.length ∧ off.length ≤ 201) ∧ to.length ≤ 2000 ∧ nth off 0 = 0 ∧ nth off (off.length - 1) = (to.length : Int) ∧ climbs off
instance (off to : List Int) : Decidable (shapeR off to) := by unfold shapeR; infer_instance
def halfR (off to : List Int) : Prop := shapeR off to ∧ ∀ v ∈ List.range (off.length - 1), goodRowI (off.length - 1) (rowR off to v)
instance (off to : List Int) : Decidable (halfR off to) := by unfold halfR; infer_instance
/-- Rows are right. -/
def chkR (r : Rws) : Prop := r.off.length = r.roff.length ∧ r.to.length = r.rev.length ∧ halfR r.off r.to ∧ halfR r.roff r.rev ∧ ∀ v ∈ List.range r.n, ∀ w ∈ rowR r.off r.to v, (v : Int) ∈ rowR r.roff r.rev w.toNat
instance (r : Rws) : Decidable (chkR r) := by unfold chkR; infer_instance

section
variable {off to : List Int}
theorem climbs_le (h : climbs off) : ∀ {a b : Nat}, a ≤ b → b < off.length → nth off a ≤ nth off b := by
  intro a b hab
  induction b with
  | zero => intro _; have : a = 0 := by omega
            rw [this]; exact Int.le_refl _
  | succ b ih =>
    intro hb
    by_cases e : a = b + 1
    · rw [e]; exact Int.le_refl _
    · have h1 := ih (by omega) (by omega)
      have h2 := h b hb
      omega
/-- Where a place's row lies. -/
theorem row_bounds (h : shapeR off to) {v : Nat} (hv : v < off.length - 1) : 0 ≤ nth off v ∧ nth off v ≤ nth off (v + 1) ∧ nth off (v + 1) ≤ (to.length : Int) := by
  obtain ⟨_, _, h0, h1, hc⟩ := h
  have a := climbs_le hc (a := 0) (b := v) (by omega) (by omega)
  have b := hc v (by omega)
  have c := climbs_le hc (a := v + 1) (b := off.length - 1) (by omega) (by omega)
  omega
theorem cutI_len {l : List Int} {a b : Int} (h0 : 0 ≤ a) (h1 : a ≤ b) (h2 : b ≤ (l.length : Int)) : ((cutI l a b).length : Int) = b - a := by
  unfold cutI
  rw [List.length_drop, List.length_take]
  omega
theorem cutI_get {l : List Int} {a b : Int} (h0 : 0 ≤ a) (_ : b ≤ (l.length : Int)) {i : Nat} (hi : a + i < b) : (cutI l a b)[i]? = l[a.toNat + i]? := by
  unfold cutI
  rw [List.getElem?_drop, List.getElem?_take_of_lt (by omega)]
theorem row_len (h : shapeR off to) {v : Nat} (hv : v < off.length - 1) : ((rowR off to v).length : Int) = nth off (v + 1) - nth off v := by
  obtain ⟨a, b, c⟩ := row_bounds h hv
  exact cutI_len a b c
theorem row_len_le (off to : List Int) (v : Nat) : (rowR off to v).length ≤ to.length := by
  unfold rowR cutI
  rw [List.length_drop, List.length_take]
  omega
end
theorem incr_pair : ∀ {l : List Int} {i : Nat} {x y : Int}, incr l → l[i]? = some x → l[i + 1]? = some y → x < y
  | [], _, _, _, _, h, _ => by simp at h
  | [_], _, _, _, _, _, h => by simp at h
  | a :: b :: r, 0, x, y, h, hx, hy => by
    simp at hx hy
    obtain ⟨h1, _⟩ := h
    omega
  | a :: b :: r, i + 1, x, y, h, hx, hy => by
    simp only [List.getElem?_cons_succ] at hx hy
    exact incr_pair h.2 hx hy
theorem incr_of : ∀ {l : List Int}, (∀ (i : Nat) (x y : Int), l[i]? = some x → l[i + 1]? = some y → x < y) → incr l
  | [], _ => trivial
  | [_], _ => trivial
  | a :: b :: r, h => ⟨h 0 a b rfl rfl, incr_of fun i x y hx hy => h (i + 1) x y (by simpa using hx) (by simpa using hy)⟩
theorem incr_take {l : List Int} (k : Nat) (h : incr l) : incr (l.take k) := incr_of fun i x y hx hy => by
  rw [List.getElem?_take] at hx hy
  split at hx
  · split at hy
    · exact incr_pair h hx hy
    · cases hy
  · cases hx
theorem incr_snoc {l : List Int} {x : Int} (h : incr l) (hx : ∀ y, l.getLast? = some y → y < x) : incr (l ++ [x]) := by
  refine incr_of fun i a b ha hb => ?_
  by_cases hi : i + 1 < l.length
  · rw [List.getElem?_append_left (by omega)] at ha hb
    exact incr_pair h ha hb
  · have hl : i + 1 = l.length := by
      have := (List.getElem?_eq_some_iff.1 hb).1
      simp at this
      omega
    rw [List.getElem?_append_left (by omega)] at ha
    rw [List.getElem?_append_right (by omega)] at hb
    have e : i + 1 - l.length = 0 := by omega
    rw [e] at hb
    simp at hb
    subst hb
    refine hx a ?_
    rw [List.getLast?_eq_getElem?]
    rw [show l.length - 1 = i by omega]
    exact ha
theorem incr_lt : ∀ {l : List Int}, incr l → l.Pairwise (· < ·)
  | [], _ => List.Pairwise.nil
  | [_], _ => by simp
  | a :: b :: r, h => by
    have ih := incr_lt h.2
    rw [List.pairwise_cons]
    refine ⟨fun x hx => ?_, ih⟩
    rcases List.mem_cons.1 hx with rfl | hx
    · exact h.1
    · have := (List.pairwise_cons.1 ih).1 x hx
      have := h.1
      omega
end Go.Proofs.YtichoidkemeibaaGreat

namespace Go.Proofs.YtichoidkemeibaaGreat

/-- The pairs of the first k places. -/
def flatR (off to : List Int) (k : Nat) : List (Nat × Int) := (List.range k).flatMap fun v => (rowR off to v).map fun x => (v, x)
theorem flatR_succ (off to : List Int) (k : Nat) : flatR off to (k + 1) = flatR off to k ++ (rowR off to k).map (fun x => (k, x)) := by
  unfold flatR
  rw [List.range_succ, List.flatMap_append]
  simp
theorem mem_flatR {off to : List Int} {k : Nat} {p : Nat × Int} : p ∈ flatR off to k ↔ p.1 < k ∧ p.2 ∈ rowR off to p.1 := by
  unfold flatR
  rw [List.mem_flatMap]
  constructor
  · rintro ⟨v, hv, hp⟩
    obtain ⟨x, hx, rfl⟩ := List.mem_map.1 hp
    exact ⟨List.mem_range.1 hv, hx⟩
  · rintro ⟨h1, h2⟩
    exact ⟨p.1, List.mem_range.2 h1, List.mem_map.2 ⟨p.2, h2, rfl⟩⟩
/-- Pairs of one place rise. -/
def adj (l : List (Nat × Int)) : Prop := ∀ (i : Nat) (p q : Nat × Int), l[i]? = some p → l[i + 1]? = some q → p.1 = q.1 → p.2 < q.2
def okSeq (n : Nat) (l : List (Nat × Int)) : Prop := (∀ p ∈ l, 0 ≤ p.2 ∧ p.2 < (n : Int)) ∧ adj l
theorem adj_append {l m : List (Nat × Int)} : adj (l ++ m) ↔ adj l ∧ adj m ∧ ∀ p q, l.getLast? = some p → m.head? = some q → p.1 = q.1 → p.2 < q.2 := by
  constructor
  · intro h
    refine ⟨fun i p q hp hq => ?_, fun i p q hp hq => ?_, fun p q hp hq => ?_⟩
    · have h1 := (List.getElem?_eq_some_iff.1 hp).1
      have h2 := (List.getElem?_eq_some_iff.1 hq).1
      exact h i p q (by rw [List.getElem?_append_left h1]; exact hp) (by rw [List.getElem?_append_left h2]; exact hq)
    · exact h (l.length + i) p q (by rw [List.getElem?_append_right (by omega)]; simpa using hp) (by rw [List.getElem?_append_right (by omega), show l.length + i + 1 - l.length = i + 1 by omega]; exact hq)
    · rw [List.getLast?_eq_getElem?] at hp
      have h1 := (List.getElem?_eq_some_iff.1 hp).1
      rw [List.head?_eq_getElem?] at hq
      refine h (l.length - 1) p q (by rw [List.getElem?_append_left h1]; exact hp) ?_
      rw [List.getElem?_append_right (by omega), show l.length - 1 + 1 - l.length = 0 by omega]
      exact hq
  · rintro ⟨h1, h2, h3⟩ i p q hp hq
    by_cases a : i + 1 < l.length
    · rw [List.getElem?_append_left (by omega)] at hp hq
      exact h1 i p q hp hq
    · by_cases b : i + 1 = l.length
      · rw [List.getElem?_append_left (by omega)] at hp
        rw [List.getElem?_append_right (by omega), show i + 1 - l.length = 0 by omega] at hq
        refine h3 p q ?_ (by rw [List.head?_eq_getElem?]; exact hq)
        rw [List.getLast?_eq_getElem?, show l.length - 1 = i by omega]
        exact hp
      · rw [List.getElem?_append_right (by omega)] at hp hq
        exact h2 (i - l.length) p q hp (by rw [show i - l.length + 1 = i + 1 - l.length by omega]; exact hq)
theorem adj_nil : adj [] := fun i p q hp => by simp at hp
theorem adj_one (x : Nat × Int) : adj [x] := fun i p q hp hq => by
  have := (List.getElem?_eq_some_iff.1 hq).1
  simp at this
theorem okSeq_nil (n : Nat) : okSeq n [] := ⟨fun p hp => by simp at hp, adj_nil⟩
theorem okSeq_snoc {n : Nat} {l : List (Nat × Int)} {x : Nat × Int} : okSeq n (l ++ [x]) ↔ okSeq n l ∧ (0 ≤ x.2 ∧ x.2 < (n : Int)) ∧ ∀ y, l.getLast? = some y → y.1 = x.1 → y.2 < x.2 := by
  unfold okSeq
  rw [adj_append]
  constructor
  · rintro ⟨h1, h2, _, h4⟩
    exact ⟨⟨fun p hp => h1 p (by simp [hp]), h2⟩, h1 x (by simp), fun y hy => h4 y x hy rfl⟩
  · rintro ⟨⟨h1, h2⟩, h3, h4⟩
    refine ⟨fun p hp => ?_, h2, adj_one x, fun p q hp hq => ?_⟩
    · rcases List.mem_append.1 hp with hp | hp
      · exact h1 p hp
      · rw [List.mem_singleton.1 hp]; exact h3
    · simp at hq
      subst hq
      exact h4 p hp
theorem okSeq_prefix {n : Nat} {l m : List (Nat × Int)} (h : okSeq n m) (hp : l <+: m) : okSeq n l := by
  obtain ⟨r, rfl⟩ := hp
  exact ⟨fun p hp => h.1 p (by simp [hp]), (adj_append.1 h.2).1⟩
theorem adj_row (k : Nat) (r : List Int) : adj (r.map fun x => (k, x)) ↔ incr r := by
  constructor
  · intro h
    exact incr_of fun i x y hx hy => h i (k, x) (k, y) (by rw [List.getElem?_map, hx]; rfl) (by rw [List.getElem?_map, hy]; rfl) rfl
  · intro h i p q hp hq _
    rw [List.getElem?_map, Option.map_eq_some_iff] at hp hq
    obtain ⟨x, hx, rfl⟩ := hp
    obtain ⟨y, hy, rfl⟩ := hq
    exact incr_pair h hx hy
/-- The pairs are right just where each row is. -/
theorem okSeq_flat (off to : List Int) (n : Nat) : ∀ k, okSeq n (flatR off to k) ↔ ∀ v ∈ List.range k, goodRowI n (rowR off to v)
  | 0 => by simp [flatR, okSeq_nil]
  | k + 1 => by
    have ih := okSeq_flat off to n k
    rw [flatR_succ]
    unfold okSeq at ih ⊢
    rw [adj_append, adj_row]
    constructor
    · rintro ⟨h1, h2, h3, _⟩ v hv
      have hv := List.mem_range.1 hv
      by_cases e : v = k
      · rw [e]
        exact ⟨fun w hw => h1 (k, w) (List.mem_append_right _ (List.mem_map.2 ⟨w, hw, rfl⟩)), h3⟩
      · exact ih.1 ⟨fun p hp => h1 p (List.mem_append_left _ hp), h2⟩ v (List.mem_range.2 (by omega))
    · intro h
      have h1 := ih.2 fun v hv => h v (by have := List.mem_range.1 hv; exact List.mem_range.2 (by omega))
      have h2 := h k (List.mem_range.2 (by omega))
      refine ⟨fun p hp => ?_, h1.2, h2.2, fun p q hp hq e => ?_⟩
      · rcases List.mem_append.1 hp with hp | hp
        · exact h1.1 p hp
        · obtain ⟨x, hx, rfl⟩ := List.mem_map.1 hp
          exact h2.1 x hx
      · have a := (mem_flatR.1 (List.mem_of_getLast? hp)).1
        have b := List.mem_of_head? hq
        obtain ⟨x, _, rfl⟩ := List.mem_map.1 b
        simp at e
        omega
theorem flatR_mono (off to : List Int) {j k : Nat} (h : j ≤ k) : flatR off to j <+: flatR off to k := by
  induction k with
  | zero => rw [show j = 0 by omega]; exact List.prefix_rfl
  | succ k ih =>
    by_cases e : j = k + 1
    · rw [e]; exact List.prefix_rfl
    · rw [flatR_succ]
      exact (ih (by omega)).trans (List.prefix_append _ _)
theorem flatR_pre (off to : List Int) {j k : Nat} (h : j < k) (i : Nat) : flatR off to j ++ ((rowR off to j).take i).map (fun x => (j, x)) <+: flatR off to k := by
  refine List.IsPrefix.trans ?_ (flatR_mono off to (j := j + 1) h)
  rw [flatR_succ]
  exact (List.prefix_append_right_inj _).2 ((List.take_prefix _ _).map _)
theorem flatR_pre_len (off to : List Int) {j k : Nat} (h : j < k) {i : Nat} (hi : i < (rowR off to j).length) : (flatR off to j ++ ((rowR off to j).take i).map (fun x => (j, x))).length < (flatR off to k).length := by
  have h1 := (flatR_pre off to h (i + 1)).length_le
  refine Nat.lt_of_lt_of_le ?_ h1
  rw [List.length_append, List.length_append, List.length_map, List.length_map, List.length_take, List.length_take]
  omega
end Go.Proofs.YtichoidkemeibaaGreat
