/-
  Replies: are two the same; may one be (the program).
-/
import Derived.Test.YtmnjlhifjjainaaFrPut
namespace Go.Proofs.Ytmnjlhifjjainaa
open Go.RowKit

theorem run_neq_hit (x y : Hit) (h : x ≠ y) (w : World) :
    (binOp .neq 88 (.agg #[.int .i64 x.v, .int .i64 x.d]) (.agg #[.int .i64 y.v, .int .i64 y.d])).run Try.prog w = .ok (.bool true) w := by
  have h' : ¬ (x.v = y.v ∧ x.d = y.d) := fun e => h ((Hit.eq_iff _ _).2 e)
  have H := Lib.hid h'
  clear h h'
  go_simp
  by_cases e1 : x.v = y.v
  · by_cases e2 : x.d = y.d
    · exact absurd ⟨e1, e2⟩ H.out
    · simp [e1, e2]
  · simp [e1]

theorem sameHits_c (A1 A2 : Option Addr) (n1 n2 c1 c2 : Nat) (xs ys : List Hit) (w : World) (h1 : Reads w w.heap.size 2 A1 n1 (hv xs)) (h2 : Reads w w.heap.size 2 A2 n2 (hv ys)) (hn1 : n1 ≤ maxLen) (hn2 : n2 ≤ maxLen) :
    Calls Try.prog 97 #[.slice A1 n1 c1, .slice A2 n2 c2] w fun e w' => e = .returned (.bool (decide (xs = ys))) ∧ Below w.heap.size w w' := by
  have l1 := h1.hit_len
  have l2 := h2.hit_len
  unfold maxLen at hn1 hn2
  by_cases hn : n1 = n2
  · subst hn
    go_enter Try.func97, Try.ntmps97
    go_wp2
    go_loopw [5] (fun i wr => ∃ k : Nat, k ≤ n1 ∧ i = .int .i64 k ∧ Hid (xs.take k = ys.take k) ∧ Below w.heap.size w wr) (fun i _ => n1 - (intOf i).toNat)
    case atStart => exact ⟨0, Nat.zero_le _, rfl, rfl, Below.refl _ _⟩
    case round =>
      obtain ⟨k, hk, rfl, ht, hB⟩ := hrel
      by_cases hlt : k < n1
      · obtain ⟨a1, o1, x, rfl, hx, hc10, hc11⟩ := (h1.below hB).hit_at hlt
        obtain ⟨a2, o2, y, rfl, hy, hc20, hc21⟩ := (h2.below hB).hit_at hlt
        clear h1 h2
        have L1 := Lib.hid l1
        have L2 := Lib.hid l2
        clear l1 l2
        by_cases hxy : x = y
        · subst hxy
          go_wp2
          go_quiet (fail)
          go_wp2
          go_roundw
          case rel =>
            refine ⟨k + 1, by omega, by go_num, ?_, below_drewN hB _⟩
            show _ = _
            rw [List.take_add_one, List.take_add_one, ht.out, hx.out, hy.out]
          case measure => simp [intOf]; omega
        · have hrun := run_neq_hit x y hxy
          have hxy := Lib.hid hxy
          go_wp2
          go_quiet (fail)
          go_wp2
          have hf : ¬ xs = ys := fun e => hxy.out (by
            have e1 := hx.out
            rw [e, hy.out] at e1
            injection e1 with e1; exact e1.symm)
          go_ret
          exact ⟨ret_bool (decide_eq_false hf).symm, below_drewN hB _⟩
      · obtain rfl : k = n1 := by omega
        have hf : Hid (xs = ys) := by
          have := ht.out
          rw [List.take_of_length_le (by omega), List.take_of_length_le (by omega)] at this
          exact this
        clear l1 l2
        go_wp2
        go_ret
        exact ⟨ret_bool (decide_eq_true hf.out).symm, hB⟩
  · have hf : Hid (¬ xs = ys) := fun e => hn (by rw [← l1, ← l2, e])
    clear l1 l2
    go_enter Try.func97, Try.ntmps97
    go_wp2
    go_ret
    exact ⟨ret_bool (decide_eq_false hf.out).symm, Below.refl _ _⟩

set_option maxRecDepth 100000 in
set_option maxHeartbeats 800000 in
theorem sameAnswer_c (f1 f2 : Bool) (d1 d2 : Int) (xs ys : List Hit) (A1 A2 : Option Addr) (n1 n2 c1 c2 : Nat) (w : World) (h1 : Reads w w.heap.size 2 A1 n1 (hv xs)) (h2 : Reads w w.heap.size 2 A2 n2 (hv ys)) (hn1 : n1 ≤ maxLen) (hn2 : n2 ≤ maxLen) :
    Calls Try.prog 58 #[.agg #[.bool f1, .int .i64 d1, .slice A1 n1 c1], .agg #[.bool f2, .int .i64 d2, .slice A2 n2 c2]] w fun e w' => e = .returned (.bool (decide (f1 = f2 ∧ d1 = d2 ∧ xs = ys))) ∧ Below w.heap.size w w' := by
  have HR1 := Lib.hid h1
  have HR2 := Lib.hid h2
  have HN1 := Lib.hid hn1
  have HN2 := Lib.hid hn2
  clear h1 h2 hn1 hn2
  have hBq := below_two w (.cells #[.bool f1, .int .i64 d1, .slice A1 n1 c1] 38) (.cells #[.bool f2, .int .i64 d2, .slice A2 n2 c2] 38)
  obtain ⟨b0, hb0⟩ : ∃ b, (f1 == f2) = b := ⟨_, rfl⟩
  obtain ⟨b1, hb1⟩ : ∃ b, (d1 == d2) = b := ⟨_, rfl⟩
  obtain ⟨b2, hb2⟩ : ∃ b, decide (xs = ys) = b := ⟨_, rfl⟩
  have H : Hid (decide (f1 = f2 ∧ d1 = d2 ∧ xs = ys) = (b0 && b1 && b2)) := by
    show _ = _
    rw [← hb0, ← hb1, ← hb2, Bool.eq_iff_iff]
    simp [and_assoc]
  have H2 := Lib.hid hb2
  clear hb2
  rcases b0 with _ | _
  · go_enter Try.func58, Try.ntmps58
    go_wp2_with (fail)
    go_ret
    exact ⟨ret_bool (by rw [H.out]; rfl), hBq⟩
  · rcases b1 with _ | _
    · go_enter Try.func58, Try.ntmps58
      go_wp2_with (fail)
      go_ret
      exact ⟨ret_bool (by rw [H.out]; rfl), hBq⟩
    · go_enter Try.func58, Try.ntmps58
      go_wp2_with (fail)
      refine (sameHits_c A1 A2 n1 n2 c1 c2 xs ys _ ((HR1.out.below hBq).more (by simp; omega)) ((HR2.out.below hBq).more (by simp; omega)) HN1.out HN2.out).mono ?_
      rintro e w2 ⟨rfl, hB2⟩
      rw [H2.out]
      have hBB := hBq.trans (hB2.mono hBq.size)
      rcases b2 with _ | _
      all_goals
        go_wp2_with (fail)
        go_ret
        exact ⟨ret_bool (by rw [H.out]; rfl), hBB⟩

set_option maxRecDepth 100000 in
set_option maxHeartbeats 800000 in
theorem sameReply_c (x y : Rep) (A1 A2 : Option Addr) (n1 n2 c1 c2 : Nat) (w : World) (h1 : Reads w w.heap.size 2 A1 n1 (hv x.hits)) (h2 : Reads w w.heap.size 2 A2 n2 (hv y.hits)) (hn1 : n1 ≤ maxLen) (hn2 : n2 ≤ maxLen) :
    Calls Try.prog 25 #[.agg #[.int .i64 x.id, .int .i64 x.code, .bool x.found, .int .i64 x.d, .slice A1 n1 c1], .agg #[.int .i64 y.id, .int .i64 y.code, .bool y.found, .int .i64 y.d, .slice A2 n2 c2]] w fun e w' => e = .returned (.bool (decide (x = y))) ∧ Below w.heap.size w w' := by
  have HI := Lib.hid (Rep.eq_iff x y)
  have HR1 := Lib.hid h1
  have HR2 := Lib.hid h2
  have HN1 := Lib.hid hn1
  have HN2 := Lib.hid hn2
  clear h1 h2 hn1 hn2
  have hBq := below_two w (.cells #[.int .i64 x.id, .int .i64 x.code, .bool x.found, .int .i64 x.d, .slice A1 n1 c1] 40) (.cells #[.int .i64 y.id, .int .i64 y.code, .bool y.found, .int .i64 y.d, .slice A2 n2 c2] 40)
  obtain ⟨b0, hb0⟩ : ∃ b, (x.id == y.id) = b := ⟨_, rfl⟩
  obtain ⟨b1, hb1⟩ : ∃ b, (x.code == y.code) = b := ⟨_, rfl⟩
  obtain ⟨b2, hb2⟩ : ∃ b, decide (x.found = y.found ∧ x.d = y.d ∧ x.hits = y.hits) = b := ⟨_, rfl⟩
  have H : Hid (decide (x = y) = (b0 && b1 && b2)) := by
    show _ = _
    rw [← hb0, ← hb1, ← hb2, Bool.eq_iff_iff, decide_eq_true_iff, HI.out]
    simp [and_assoc]
  have H2 := Lib.hid hb2
  clear hb2
  rcases b0 with _ | _
  · go_enter Try.func25, Try.ntmps25
    go_wp2_with (fail)
    go_ret
    exact ⟨ret_bool (by rw [H.out]; rfl), hBq⟩
  · rcases b1 with _ | _
    · go_enter Try.func25, Try.ntmps25
      go_wp2_with (fail)
      go_ret
      exact ⟨ret_bool (by rw [H.out]; rfl), hBq⟩
    · go_enter Try.func25, Try.ntmps25
      go_wp2_with (fail)
      refine (sameAnswer_c x.found y.found x.d y.d x.hits y.hits A1 A2 n1 n2 c1 c2 _ ((HR1.out.below hBq).more (by simp; omega)) ((HR2.out.below hBq).more (by simp; omega)) HN1.out HN2.out).mono ?_
      rintro e w2 ⟨rfl, hB2⟩
      rw [H2.out]
      have hBB := hBq.trans (hB2.mono hBq.size)
      rcases b2 with _ | _
      all_goals
        go_wp2_with (fail)
        go_ret
        exact ⟨ret_bool (by rw [H.out]; rfl), hBB⟩

def allHits (l : List Hit) : Prop := ∀ h ∈ l, okHit h
instance (l : List Hit) : Decidable (allHits l) := by unfold allHits; infer_instance
theorem allHits_more {l : List Hit} {k : Nat} {x : Hit} (h : allHits (l.take k)) (hx : l[k]? = some x) (hw : okHit x) : allHits (l.take (k + 1)) := by
  intro d hd
  rw [List.take_add_one, hx, List.mem_append] at hd
  rcases hd with hd | hd
  · exact h d hd
  · simp at hd; subst hd; exact hw
theorem not_allHits {l : List Hit} {k : Nat} {x : Hit} (hx : l[k]? = some x) (hw : ¬ okHit x) : ¬ allHits l := fun h => hw (h x (List.mem_of_getElem? hx))

theorem oddHit_c (x : Hit) (w : World) :
    Calls Try.prog 91 #[.agg #[.int .i64 x.v, .int .i64 x.d]] w fun e w' => e = .returned (.bool (!decide (okHit x))) ∧ Below w.heap.size w w' := by
  go_enter Try.func91, Try.ntmps91
  go_wp2
  all_goals go_ret
  all_goals refine ⟨ret_bool ?_, ?_⟩
  all_goals first | exact (Below.refl _ _).alloc (Nat.le_refl _) _ | skip
  all_goals first
    | (rw [decide_eq_false (show ¬ okHit x by unfold okHit; omega)]; rfl)
    | (rw [decide_eq_true (show okHit x by unfold okHit; omega)]; rfl)
    | (by_cases ho : okHit x
       · rw [decide_eq_true ho]; unfold okHit at ho; simp <;> omega
       · rw [decide_eq_false ho]; unfold okHit at ho; simp <;> omega)

set_option maxRecDepth 100000 in
set_option maxHeartbeats 800000 in
theorem indexHit_c (A : Option Addr) (n c : Nat) (l : List Hit) (w : World) (h1 : Reads w w.heap.size 2 A n (hv l)) (hn : n ≤ maxLen) :
    Calls Try.prog 122 #[.slice A n c, .func (.func 91) #[] #[]] w fun e w' => ∃ i : Int, e = .returned (.int .i64 i) ∧ decide (0 ≤ i) = !decide (allHits l) ∧ Below w.heap.size w w' := by
  have l1 := h1.hit_len
  unfold maxLen at hn
  go_enter Try.func122, Try.ntmps122
  go_wp2_with (fail)
  go_loopw [8] (fun i wr => ∃ k : Nat, k ≤ n ∧ i = .int .i64 k ∧ Hid (allHits (l.take k)) ∧ Below w.heap.size w wr) (fun i _ => n - (intOf i).toNat)
  case atStart => exact ⟨0, Nat.zero_le _, rfl, fun c hc => by simp at hc, Below.refl _ _⟩
  case round =>
    obtain ⟨k, hk, rfl, ha, hB⟩ := hrel
    by_cases hlt : k < n
    · obtain ⟨a1, o1, x, rfl, hx, hc1, hc2⟩ := (h1.below hB).hit_at hlt
      clear h1
      go_wp2_with (fail)
      refine (oddHit_c x _).mono ?_
      rintro e w2 ⟨rfl, hB2⟩
      have hBB := hB.trans (hB2.mono hB.size)
      by_cases hw : okHit x
      · rw [decide_eq_true hw]
        have H := Lib.hid (allHits_more ha.out hx.out hw)
        clear hw hc1 hc2
        go_wp2_with (fail)
        go_roundw
        case rel => exact ⟨k + 1, by omega, by go_num, H.out, hBB⟩
        case measure => simp [intOf] <;> omega
      · rw [decide_eq_false hw]
        have H := Lib.hid (not_allHits hx.out hw)
        clear hw hc1 hc2
        go_wp2_with (fail)
        go_ret
        exact ⟨_, rfl, by rw [decide_eq_false H.out]; simp, hBB⟩
    · obtain rfl : k = n := by omega
      have H : Hid (allHits l) := by
        have := ha.out
        rw [List.take_of_length_le (by omega)] at this
        exact this
      clear h1 l1
      go_wp2_with (fail)
      go_ret
      exact ⟨_, rfl, by rw [decide_eq_true H.out]; simp, hB⟩
theorem containsHit_c (A : Option Addr) (n c : Nat) (l : List Hit) (w : World) (h1 : Reads w w.heap.size 2 A n (hv l)) (hn : n ≤ maxLen) :
    Calls Try.prog 92 #[.slice A n c, .func (.func 91) #[] #[]] w fun e w' => e = .returned (.bool (!decide (allHits l))) ∧ Below w.heap.size w w' := by
  go_enter Try.func92, Try.ntmps92
  go_wp2_with (fail)
  refine (indexHit_c A n c l w h1 hn).mono ?_
  rintro e w2 ⟨i, rfl, hi, hB⟩
  go_wp2_with (fail)
  go_ret
  exact ⟨ret_bool (by first | exact hi | (rw [← hi]) | (rw [← hi]; simp)), hB⟩

theorem mayRep_low {x : Rep} {n : Nat} (hl : x.hits.length = n) (hg : good x.id) (hc : 0 ≤ x.code ∧ x.code ≤ 1000) (hb : x.code ≠ 0 ∨ x.found = false) : mayRep x ↔ x.found = false ∧ x.d = 0 ∧ n = 0 := by
  have hw : x.hits = [] ↔ n = 0 := by rw [← hl]; exact List.length_eq_zero_iff.symm
  unfold mayRep
  rw [hw, hl]
  constructor
  · rintro ⟨-, -, -, -, h5, h6, -⟩
    rcases hb with hb | hb
    · exact h5 hb
    · exact ⟨hb, h6 hb⟩
  · rintro ⟨h1, h2, h3⟩
    have he : x.hits = [] := hw.2 h3
    refine ⟨hg, hc, by omega, by omega, fun _ => ⟨h1, h2, h3⟩, fun _ => ⟨h2, h3⟩, .inl h2, fun h hh => by rw [he] at hh; simp at hh⟩
theorem mayRep_high {x : Rep} {n : Nat} (hl : x.hits.length = n) (hg : good x.id) (hc : x.code = 0) (hb : x.found = true) : mayRep x ↔ (0 ≤ x.d ∧ x.d ≤ 400) ∧ n ≤ 100 ∧ (x.d = 0 ∨ n = 0) ∧ allHits x.hits := by
  have hw : x.hits = [] ↔ n = 0 := by rw [← hl]; exact List.length_eq_zero_iff.symm
  unfold mayRep allHits
  rw [hw, hl]
  constructor
  · rintro ⟨-, -, h3, h4, -, -, h7, h8⟩
    exact ⟨h3, h4, h7, h8⟩
  · rintro ⟨h3, h4, h7, h8⟩
    exact ⟨hg, by omega, h3, h4, fun h => absurd hc h, (fun h => by rw [hb] at h; cases h), h7, h8⟩
set_option maxRecDepth 100000 in
set_option maxHeartbeats 800000 in
theorem right_c (x : Rep) (A : Option Addr) (n c : Nat) (w : World) (h1 : Reads w w.heap.size 2 A n (hv x.hits)) (hn : n ≤ maxLen) :
    Calls Try.prog 52 #[.agg #[.int .i64 x.id, .int .i64 x.code, .bool x.found, .int .i64 x.d, .slice A n c]] w fun e w' => e = .returned (.bool (decide (mayRep x))) ∧ Below w.heap.size w w' := by
  have HL := Lib.hid h1.hit_len
  have HR := Lib.hid h1
  have HN := Lib.hid hn
  clear h1
  have hBq := below_two w (.cells #[.int .i64 x.id, .int .i64 x.code, .bool x.found, .int .i64 x.d, .slice A n c] 40) (.cells #[.bool x.found, .int .i64 x.d, .slice A n c] 38)
  obtain ⟨xi, xc, xf, xd, xh⟩ := x
  simp only at HL HR hBq ⊢
  by_cases hg : good xi ∧ (0 ≤ xc ∧ xc ≤ 1000)
  · obtain ⟨⟨hg1, hg2⟩, hc1, hc2⟩ := hg
    have HG : Hid (good xi) := ⟨hg1, hg2⟩
    have i1 : ¬ xi < 0 := by omega
    have i2 : ¬ 2147483647 < xi := by omega
    have i3 : ¬ xc < 0 := by omega
    have i4 : ¬ 1000 < xc := by omega
    by_cases hb : xc ≠ 0 ∨ xf = false
    · obtain ⟨d0, hd0⟩ : ∃ d0, (xd == 0) = d0 := ⟨_, rfl⟩
      obtain ⟨n0, hn0⟩ : ∃ n0, ((n : Int) == 0) = n0 := ⟨_, rfl⟩
      obtain ⟨cc, hcc⟩ : ∃ cc, (xc != 0) = cc := ⟨_, rfl⟩
      have H : Hid (decide (mayRep ⟨xi, xc, xf, xd, xh⟩) = (d0 && n0 && !xf)) := by
        show _ = _
        rw [← hd0, ← hn0, Bool.eq_iff_iff, decide_eq_true_iff, mayRep_low (x := ⟨xi, xc, xf, xd, xh⟩) HL.out HG.out ⟨hc1, hc2⟩ hb]
        simp only [                    Bool.and_eq_true, beq_iff_eq, Bool.not_eq_true']
        constructor
        · rintro ⟨a, b, c⟩; exact ⟨⟨b, by omega⟩, a⟩
        · rintro ⟨⟨a, b⟩, c⟩; exact ⟨c, a, by omega⟩
      have HB := Lib.hid hb
      clear hb
      rcases d0 with _ | _ <;> rcases n0 with _ | _ <;> rcases cc with _ | _ <;> rcases xf with _ | _
      all_goals first
        | (exfalso
           have hb := HB.out
           rcases hb with hb | hb
           · have : (xc != 0) = true := by simpa using hb
             rw [this] at hcc
             cases hcc
           · cases hb)
        | (go_enter Try.func52, Try.ntmps52
           go_wp2_with (fail)
           go_ret
           exact ⟨ret_bool (by rw [H.out]; first | rfl | simp), hBq⟩)
    · have hx0 : xc = 0 := by
        by_cases h : xc = 0
        · exact h
        · exact absurd (.inl h) hb
      have hxf : xf = true := by
        cases xf
        · exact absurd (.inr rfl) hb
        · rfl
      subst hx0 hxf
      clear hb
      have HI := Lib.hid (mayRep_high (x := ⟨xi, 0, true, xd, xh⟩) HL.out HG.out rfl rfl)
      by_cases hd1 : 0 ≤ xd
      · by_cases hd2 : xd ≤ 400
        · by_cases hn1 : n ≤ 100
          · obtain ⟨d0, hd0⟩ : ∃ d0, (xd == 0) = d0 := ⟨_, rfl⟩
            obtain ⟨n0, hn0⟩ : ∃ n0, ((n : Int) == 0) = n0 := ⟨_, rfl⟩
            obtain ⟨ah, hah⟩ : ∃ ah, decide (allHits xh) = ah := ⟨_, rfl⟩
            have H : Hid (decide (mayRep ⟨xi, 0, true, xd, xh⟩) = ((d0 || n0) && ah)) := by
              show _ = _
              rw [← hd0, ← hn0, ← hah, Bool.eq_iff_iff, decide_eq_true_iff, HI.out]
              simp only [decide_eq_true_iff, Bool.and_eq_true, Bool.or_eq_true, beq_iff_eq]
              constructor
              · rintro ⟨-, -, a, b⟩; exact ⟨by omega, b⟩
              · rintro ⟨a, b⟩; exact ⟨⟨hd1, hd2⟩, hn1, by omega, b⟩
            have HA := Lib.hid hah
            have i5 : (n : Int) ≤ 100 := by omega
            clear hah HI
            by_cases hor : (d0 || n0) = true
            · rcases d0 with _ | _
              · have hn0' : n0 = true := by simpa using hor
                subst hn0'
                go_enter Try.func52, Try.ntmps52
                go_wp2_with (fail)
                refine (containsHit_c A n c xh _ ((HR.out.below hBq).more (by simp; omega)) HN.out).mono ?_
                rintro e w2 ⟨rfl, hB2⟩
                rw [HA.out]
                have hBB := hBq.trans (hB2.mono hBq.size)
                rcases ah with _ | _
                all_goals
                  go_wp2_with (fail)
                  go_ret
                  exact ⟨ret_bool (by rw [H.out]; rfl), hBB⟩
              · go_enter Try.func52, Try.ntmps52
                go_wp2_with (fail)
                refine (containsHit_c A n c xh _ ((HR.out.below hBq).more (by simp; omega)) HN.out).mono ?_
                rintro e w2 ⟨rfl, hB2⟩
                rw [HA.out]
                have hBB := hBq.trans (hB2.mono hBq.size)
                rcases ah with _ | _
                all_goals
                  go_wp2_with (fail)
                  go_ret
                  exact ⟨ret_bool (by rw [H.out]; rfl), hBB⟩
            · have hdf : d0 = false ∧ n0 = false := by revert hor; cases d0 <;> cases n0 <;> simp
              obtain ⟨rfl, rfl⟩ := hdf
              go_enter Try.func52, Try.ntmps52
              go_wp2_with (fail)
              go_ret
              exact ⟨ret_bool (by rw [H.out]; rfl), hBq⟩
          · have H := Lib.hid (fun h : mayRep ⟨xi, 0, true, xd, xh⟩ => hn1 (HI.out.1 h).2.1)
            have i5 : ¬ (n : Int) ≤ 100 := by omega
            clear HI hn1
            obtain ⟨d0, hd0⟩ : ∃ d0, (xd == 0) = d0 := ⟨_, rfl⟩
            rcases d0 with _ | _
            all_goals
              go_enter Try.func52, Try.ntmps52
              go_wp2_with (fail)
              go_ret
              exact ⟨ret_bool (decide_eq_false H.out).symm, hBq⟩
        · have H := Lib.hid (fun h : mayRep ⟨xi, 0, true, xd, xh⟩ => hd2 (HI.out.1 h).1.2)
          clear HI
          obtain ⟨d0, hd0⟩ : ∃ d0, (xd == 0) = d0 := ⟨_, rfl⟩
          rcases d0 with _ | _
          all_goals
            go_enter Try.func52, Try.ntmps52
            go_wp2_with (fail)
            go_ret
            exact ⟨ret_bool (decide_eq_false H.out).symm, hBq⟩
      · have H := Lib.hid (fun h : mayRep ⟨xi, 0, true, xd, xh⟩ => hd1 (HI.out.1 h).1.1)
        clear HI
        obtain ⟨d0, hd0⟩ : ∃ d0, (xd == 0) = d0 := ⟨_, rfl⟩
        rcases d0 with _ | _
        all_goals
          go_enter Try.func52, Try.ntmps52
          go_wp2_with (fail)
          go_ret
          exact ⟨ret_bool (decide_eq_false H.out).symm, hBq⟩
  · have H := Lib.hid (fun h : mayRep ⟨xi, xc, xf, xd, xh⟩ => hg ⟨h.1, h.2.1⟩)
    have hor : xi < 0 ∨ (¬ xi < 0 ∧ 2147483647 < xi) ∨ (¬ xi < 0 ∧ ¬ 2147483647 < xi ∧ xc < 0) ∨ (¬ xi < 0 ∧ ¬ 2147483647 < xi ∧ ¬ xc < 0 ∧ 1000 < xc) := by unfold good at hg; omega
    clear hg
    obtain ⟨d0, hd0⟩ : ∃ d0, (xd == 0) = d0 := ⟨_, rfl⟩
    rcases d0 with _ | _
    all_goals
      rcases hor with o1 | ⟨o1, o2⟩ | ⟨o1, o2, o3⟩ | ⟨o1, o2, o3, o4⟩
      all_goals
        go_enter Try.func52, Try.ntmps52
        go_wp2_with (fail)
        go_ret
        exact ⟨ret_bool (decide_eq_false H.out).symm, hBq⟩
end Go.Proofs.Ytmnjlhifjjainaa
