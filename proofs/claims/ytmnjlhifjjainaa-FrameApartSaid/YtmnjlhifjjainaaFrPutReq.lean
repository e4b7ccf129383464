/-
  A request put: both sides.
-/
import Derived.Test.YtmnjlhifjjainaaFrPut
namespace Go.Proofs.Ytmnjlhifjjainaa
open Go.RowKit

def reqErr (x : Req) : Int := if mayReq x then 0 else 1
theorem app_list (s t : ByteArray) : (s ++ t).data.toList = s.data.toList ++ t.data.toList := by
  have h := cat_bytes s.data.toList t
  have e : (⟨s.data.toList.toArray⟩ : ByteArray) = s := bytes_ext (by simp)
  rw [e] at h
  rw [h]
theorem app_size (s t : ByteArray) : (s ++ t).size = s.size + t.size := by rw [← size_list, app_list, List.length_append, size_list, size_list]
theorem textStr_len (s : ByteArray) : (textStr s).size ≤ 4005 := by
  by_cases h : s.size ≤ 4000
  · rw [← size_list, textStr_list h, List.length_append, size_list]
    have := (numBytes_len s.size).2
    omega
  · unfold textStr
    rw [if_neg h]
    exact Nat.zero_le _
theorem wordsB_len (l : List ByteArray) : (wordsB l).length ≤ 4005 * l.length := by
  induction l with
  | nil => simp [wordsB]
  | cons x xs ih =>
    have h1 := textStr_len x
    rw [← size_list] at h1
    simp only [wordsB, List.flatMap_cons, List.length_append, List.length_cons] at ih ⊢
    omega
theorem lay_size (l : List UInt8) : (ByteArray.mk l.toArray).size = l.length := by simp [ByteArray.size]
theorem lay2 (a b : Int) : (layB [a, b]).length ≤ 10 := layB_len _
theorem reqB_four {x : Req} (h : x.kind = 4) : layB [x.id, x.kind] = reqB x := by unfold reqB; rw [if_neg (by omega), if_pos h, List.append_nil]
theorem reqB_low {x : Req} (h : x.kind < 3) : layB [x.id, x.kind] ++ layB [x.q.src, x.q.dst] = reqB x := by unfold reqB; rw [if_neg (by omega), if_neg (by omega)]
theorem reqB_three {x : Req} {n : Nat} (h : x.kind = 3) (hl : x.q.words.length = n) : layB [x.id, x.kind] ++ layB [x.q.src, (n : Int)] ++ wordsB x.q.words ++ layB [x.q.radius, x.q.most] = reqB x := by
  unfold reqB; rw [if_pos h, hl]; simp
theorem req_kinds {x : Req} (h : mayReq x) : (1 ≤ x.kind ∧ x.kind ≤ 2) ∨ (x.kind = 3 ∧ x.q.words.length ≤ 8) ∨ x.kind = 4 := by
  obtain ⟨-, -, h3⟩ := h
  by_cases h4 : x.kind = 4
  · exact .inr (.inr h4)
  · obtain ⟨e1, e2, -⟩ := h3 h4
    have h5 := e2.1
    by_cases h6 : x.kind = 3
    · exact .inr (.inl ⟨h6, (e2.2.2.2 (by omega)).1.2⟩)
    · exact .inl (by omega)
theorem row_new1 (w : World) (o : Obj) (xs : List Int) : RowAt ((w.alloc o).alloc (.cells (iv xs).toArray 3)) (w.heap.size + 1) xs := by
  have := row_new (w.alloc o) xs
  rw [World.size_alloc] at this
  exact this
theorem row_new2 (w : World) (o o2 : Obj) (xs : List Int) : RowAt (((w.alloc o).alloc o2).alloc (.cells (iv xs).toArray 3)) (w.heap.size + 1 + 1) xs := by
  have := row_new ((w.alloc o).alloc o2) xs
  rw [World.size_alloc, World.size_alloc] at this
  exact this
theorem QAt.keep {w w' : World} {a b n c : Nat} {q : Qry} {A : Option Addr} (h : QAt w a q A n c) (hk : Keeps b w w') (hne : a ≠ b) : QAt w' a q A n c := hk _ _ _ _ hne (by decide) h
set_option maxRecDepth 100000 in
set_option maxHeartbeats 2000000 in
theorem putRequest_c (x : Req) (A : Option Addr) (n c : Nat) (w : World) (h1 : Reads w w.heap.size 1 A n (sv x.q.words)) (hn : n ≤ maxLen) (hb : Hid (bounded x.q.words)) :
    Calls Try.prog 13 #[.agg #[.int .i64 x.id, .int .i64 x.kind, .int .i64 x.q.kind, .int .i64 x.q.src, .int .i64 x.q.dst, .slice A n c, .int .i64 x.q.radius, .int .i64 x.q.most]] w fun e w' => e = .returned (.tuple #[.string (reqS x), .int .i64 (reqErr x)]) ∧ Below w.heap.size w w' := by
  have HR := Lib.hid h1
  have HL := Lib.hid h1.str_len
  clear h1
  have HN := Lib.hid hn
  have hrb := Lib.hid (RAt.new w x A n c)
  have hBq := below_one w (.cells #[.int .i64 x.id, .int .i64 x.kind, .int .i64 x.q.kind, .int .i64 x.q.src, .int .i64 x.q.dst, .slice A n c, .int .i64 x.q.radius, .int .i64 x.q.most] 26)
  by_cases hm : mayReq x
  · have e1 : reqS x = ⟨(reqB x).toArray⟩ := if_pos hm
    have e2 : reqErr x = 0 := if_pos hm
    rw [e1, e2]
    clear e1 e2
    have HK := Lib.hid (req_kinds hm)
    go_enter Try.func13, Try.ntmps13
    go_wp2_with (fail)
    refine (may_c x A n c _ ((HR.out.below hBq).more (by simp)) HN.out hb).mono ?_
    rintro e w2 ⟨rfl, hB2⟩
    rw [decide_eq_true hm]
    clear hm
    have hBB := hBq.trans (hB2.mono hBq.size)
    have hR2 := hrb.out.below hB2 (by simp)
    have hlt := hR2.lt
    obtain ⟨c0, c1, c2, c3, c4, c5, c6, c7⟩ := hR2.cells
    have HR2 := Lib.hid hR2
    have HB2 := Lib.hid hBB
    clear hR2 hBB hB2 hBq
    go_wp2_with (fail)
    have hBA : Below w2.heap.size w2 (((w2.alloc (.cells #[.pointer none, .slice none 0 0] 65)).alloc (.cells #[.int .i64 x.q.kind, .int .i64 x.q.src, .int .i64 x.q.dst, .slice A n c, .int .i64 x.q.radius, .int .i64 x.q.most] 24)).alloc (.cells #[.int .i64 x.id, .int .i64 x.kind] 3)) := (((Below.refl _ _).alloc (Nat.le_refl _) _).alloc (by simp) _).alloc (by simp; omega) _
    refine (put_c w2.heap.size w2.heap.size (w2.heap.size + 1 + 1) 2 [] [x.id, x.kind] (((w2.alloc (.cells #[.pointer none, .slice none 0 0] 65)).alloc (.cells #[.int .i64 x.q.kind, .int .i64 x.q.src, .int .i64 x.q.dst, .slice A n c, .int .i64 x.q.radius, .int .i64 x.q.most] 24)).alloc (.cells #[.int .i64 x.id, .int .i64 x.kind] 3)) rfl (isB_below (isB_fresh w2) (below_two _ _ _)) (row_new2 w2 _ _ [x.id, x.kind]) (by omega) (by simp) (by simp; omega)).mono ?_
    rintro e w3 ⟨rfl, hib3, hB3, hK3⟩
    have hq3 : QAt w3 (w2.heap.size + 1) x.q A n c := by
      refine QAt.keep (QAt.below (w := (w2.alloc (.cells #[.pointer none, .slice none 0 0] 65)).alloc (.cells #[.int .i64 x.q.kind, .int .i64 x.q.src, .int .i64 x.q.dst, .slice A n c, .int .i64 x.q.radius, .int .i64 x.q.most] 24)) ?_ (B := w2.heap.size + 1 + 1) (((Below.refl _ _)).alloc (by simp) _) (by omega)) hK3 (by omega)
      have := QAt.new (w2.alloc (.cells #[.pointer none, .slice none 0 0] 65)) x.q A n c
      rw [World.size_alloc] at this
      exact this
    have hBB := hBA.trans hB3
    have hR3 := HR2.out.below hBB hlt
    have HB3 := Lib.hid (HB2.out.trans (hBB.mono (Nat.le_of_lt hlt)))
    have hbs : w2.heap.size ≤ w3.heap.size := hBB.size
    have HW3 := Lib.hid (HR.out.below HB3.out)
    rw [List.nil_append] at hib3
    clear c0 c1 c2 c3 c4 c5 c6 c7 hBA hB3 hK3 hBB HR2 HB2
    generalize w2.heap.size = b at hib3 hq3 hlt hbs ⊢
    obtain ⟨c0, c1, c2, c3, c4, c5, c6, c7⟩ := hR3.cells
    obtain ⟨q0, q1, q2, q3, q4, q5⟩ := hq3.cells
    have HI3 := Lib.hid hib3
    have HQ3 := Lib.hid hq3
    clear hib3 hR3 hq3
    rcases HK.out with ⟨hk1, hk2⟩ | ⟨hk3, hk8⟩ | hk4
    · have HF := Lib.hid (reqB_low (x := x) (by omega))
      go_wp2_with (fail)
      have hB4 := below_one w3 (.cells #[.int .i64 x.q.src, .int .i64 x.q.dst] 3)
      refine (put_c b b w3.heap.size 2 _ [x.q.src, x.q.dst] _ rfl (isB_below HI3.out hB4) (row_new w3 [x.q.src, x.q.dst]) (by omega) (by have := lay2 x.id x.kind; omega) (by simp; omega)).mono ?_
      rintro e w4 ⟨rfl, hib4, hB5, -⟩
      have hBB := HB3.out.trans (((hB4.mono hbs).trans hB5).mono (Nat.le_of_lt hlt))
      rw [HF.out] at hib4
      have hbs4 : b ≤ w4.heap.size := by have := hB5.size; simp at this; omega
      clear c0 c1 c2 c3 c4 c5 c6 c7 q0 q1 q2 q3 q4 q5 hB4 hB5
      go_wp2_with (fail)
      refine (builderString_c b b _ _ hib4 hbs4).mono ?_
      rintro e w5 ⟨rfl, hB6⟩
      go_wp2_with (fail)
      go_ret2
      exact ⟨rfl, hBB.trans (hB6.mono (Nat.le_of_lt hlt))⟩
    · have HF := Lib.hid (reqB_three (x := x) hk3 HL.out)
      have hk2 : ¬ x.kind ≤ 2 := by omega
      have hk3' : (x.kind == 3) = true := by simpa using hk3
      have hn8 : n ≤ 8 := by have := HL.out; omega
      clear hk3 hk8
      go_wp2_with (fail)
      have hB4 := below_one w3 (.cells #[.int .i64 x.q.src, .int .i64 (n : Int)] 3)
      refine (put_c b b w3.heap.size 2 _ [x.q.src, (n : Int)] _ rfl (isB_below HI3.out hB4) (row_new w3 [x.q.src, (n : Int)]) (by omega) (by have := lay2 x.id x.kind; omega) (by simp; omega)).mono ?_
      rintro e w4 ⟨rfl, hib4, hB5, hK5⟩
      have HQ4 := Lib.hid ((HQ3.out.below (B := b + 2) (Below.alloc (Below.refl _ _) (by have := HQ3.out.lt; omega) _) (by omega)).keep hK5 (by omega))
      have hBB := HB3.out.trans (((hB4.mono hbs).trans hB5).mono (Nat.le_of_lt hlt))
      have hbs4 : b ≤ w4.heap.size := by have := hB5.size; simp at this; omega
      have hlh : (layB [x.id, x.kind] ++ layB [x.q.src, (n : Int)]).length ≤ 20 := by
        have := lay2 x.id x.kind
        have := lay2 x.q.src (n : Int)
        rw [List.length_append]; omega
      generalize layB [x.id, x.kind] ++ layB [x.q.src, (n : Int)] = L at hib4 HF hlh
      have HW4 := Lib.hid (HR.out.below hBB)
      have HB4 := Lib.hid hBB
      have HI4 := Lib.hid hib4
      clear c0 c1 c2 c3 c4 c5 c6 c7 q0 q1 q2 q3 q4 q5 hB4 hB5 hK5 hBB hib4 HQ3 HI3 HW3 HB3
      obtain ⟨q0, q1, q2, q3, q4, q5⟩ := HQ4.out.cells
      go_wp2_with (fail)
      go_loopw [45] (fun i wr => ∃ k : Nat, k ≤ n ∧ i = .int .i64 k ∧ IsB wr b b (L ++ wordsB (x.q.words.take k)) ∧ QAt wr (b + 1) x.q A n c ∧ Below w.heap.size w wr ∧ b ≤ wr.heap.size) (fun i _ => n - (intOf i).toNat)
      case atStart => exact ⟨0, Nat.zero_le _, rfl, by simpa [wordsB] using HI4.out, HQ4.out, HB4.out, hbs4⟩
      case round =>
        clear HI4 HQ4 HB4 hbs4 HW4 q0 q1 q2 q3 q4 q5
        obtain ⟨k, hk, rfl, hib, hqr, hB, hbs⟩ := hrel
        by_cases hltk : k < n
        · obtain ⟨a1, o1, x', hA, hx, hc1⟩ := (HR.out.below hB).str_at hltk
          subst hA
          have HI := Lib.hid hib
          have HQ := Lib.hid hqr
          clear hib hqr
          go_wp2_with (fail)
          refine (textT x' _).mono ?_
          rintro e w5 ⟨rfl, hB5⟩
          have HI5 := Lib.hid (isB_below HI.out hB5)
          have HQ5 := Lib.hid (HQ.out.below hB5 HQ.out.lt)
          have HB5 := Lib.hid (hB.trans (hB5.mono hB.size))
          have hbs5 : b ≤ w5.heap.size := Nat.le_trans hbs hB5.size
          clear hB5 hB hbs HI HQ hc1
          have hl1 : (L ++ wordsB (x.q.words.take k)).length + (textStr x').size ≤ 140737488355328 := by
            have h1 := textStr_len x'
            have h3 := wordsB_len (x.q.words.take k)
            have h4 : (x.q.words.take k).length ≤ k := by rw [List.length_take]; omega
            rw [List.length_append]
            omega
          have HN5 := Lib.hid hl1
          clear hl1
          unfold textV
          go_wp2_with (fail)
          refine (writeKeep_c b b _ _ w5 HI5.out HN5.out hbs5).mono ?_
          rintro e w6 ⟨rfl, hib6, hB6, hK6⟩
          go_wp2_with (fail)
          go_roundw
          case rel =>
            refine ⟨k + 1, by omega, by go_num, ?_, HQ5.out.keep hK6 (by omega), HB5.out.trans (hB6.mono (Nat.le_of_lt hlt)), Nat.le_trans hbs5 hB6.size⟩
            rw [List.take_add_one, hx.out, Option.toList_some, wordsB_snoc, ← List.append_assoc]
            exact hib6
          case measure => simp [intOf] <;> omega
        · obtain rfl : k = n := by omega
          rw [List.take_of_length_le (by rw [HL.out]; exact Nat.le_refl _)] at hib
          obtain ⟨q0, q1, q2, q3, q4, q5⟩ := hqr.cells
          have HI := Lib.hid hib
          clear hib hqr
          go_wp2_with (fail)
          have hB4 := below_one wr (.cells #[.int .i64 x.q.radius, .int .i64 x.q.most] 3)
          refine (put_c b b wr.heap.size 2 _ [x.q.radius, x.q.most] _ rfl (isB_below HI.out hB4) (row_new wr [x.q.radius, x.q.most]) (by omega) (by have := wordsB_len x.q.words; have := HL.out; rw [List.length_append]; omega) (by simp; omega)).mono ?_
          rintro e w4 ⟨rfl, hib4, hB5, -⟩
          have hBB := hB.trans (((hB4.mono hbs).trans hB5).mono (Nat.le_of_lt hlt))
          rw [HF.out] at hib4
          have hbs4 : b ≤ w4.heap.size := by have := hB5.size; simp at this; omega
          clear q0 q1 q2 q3 q4 q5 hB4 hB5 hB
          go_wp2_with (fail)
          refine (builderString_c b b _ _ hib4 hbs4).mono ?_
          rintro e w5 ⟨rfl, hB6⟩
          go_wp2_with (fail)
          go_ret2
          exact ⟨rfl, hBB.trans (hB6.mono (Nat.le_of_lt hlt))⟩
    · have HF := Lib.hid (reqB_four hk4)
      have hk2 : ¬ x.kind ≤ 2 := by omega
      have hk3 : (x.kind == 3) = false := by rw [beq_eq_false_iff_ne]; omega
      clear hk4
      have hib3 := HI3.out
      rw [HF.out] at hib3
      go_wp2_with (fail)
      refine (builderString_c b b _ _ hib3 hbs).mono ?_
      rintro e w4 ⟨rfl, hB4⟩
      go_wp2_with (fail)
      go_ret2
      exact ⟨rfl, HB3.out.trans (hB4.mono (Nat.le_of_lt hlt))⟩
  · have e1 : reqS x = ⟨#[]⟩ := if_neg hm
    have e2 : reqErr x = 1 := if_neg hm
    rw [e1, e2]
    clear e1 e2
    go_enter Try.func13, Try.ntmps13
    go_wp2_with (fail)
    refine (may_c x A n c _ ((HR.out.below hBq).more (by simp)) HN.out hb).mono ?_
    rintro e w2 ⟨rfl, hB2⟩
    rw [decide_eq_false hm]
    clear hm
    go_wp2_with (fail)
    go_ret2
    exact ⟨rfl, hBq.trans (hB2.mono hBq.size)⟩
end Go.Proofs.Ytmnjlhifjjainaa
