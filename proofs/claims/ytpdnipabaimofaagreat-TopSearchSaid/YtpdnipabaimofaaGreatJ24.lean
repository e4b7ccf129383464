/-
  prog.hits: the walk.
  prog.Done: the walk.
-/
import Derived.Test.YtpdnipabaimofaaGreatJ23
import Derived.Test.YtpdnipabaimofaaGreatJ18
import Derived.Test.YtpdnipabaimofaaGreatJ16
import Derived.Test.YtpdnipabaimofaaGreatJ22
import Derived.Test.YtpdnipabaimofaaGreatJ19
import Derived.Test.YtpdnipabaimofaaGreatJ07
namespace Go.Proofs.YtpdnipabaimofaaGreat
open Go.RowKit Go.Shelf Go.Lib

theorem contains_c (A : Option Addr) (n c : Nat) (l : List Int) (x : Int) (B : Nat) (w : World) (h : Reads w B 1 A n (iv l)) (hn : n ≤ 1000000) :
    Calls Tryz.prog 95 #[.slice A n c, .int .i64 x] w fun e w' => e = .returned (.bool (decide (x ∈ l))) ∧ w' = w := by
  have hl := h.int_len
  rcases Nat.eq_zero_or_pos n with rfl | hpos
  · have : l = [] := List.eq_nil_of_length_eq_zero hl
    subst this
    refine (shelf_slices_Contains_int_empty A c x w).mono ?_
    rintro e w' ⟨rfl, rfl⟩
    exact ⟨by simp, rfl⟩
  · obtain ⟨b, o, rfl, _, hc⟩ := h.2 hpos
    refine (shelf_slices_Contains_int b o n c l x w (by omega) (by omega) (fun j hj => ?_)).mono ?_
    · exact hc j _ (by simp [iv, List.getElem?_eq_getElem hj, List.getD_eq_getElem?_getD])
    · rintro e w' ⟨rfl, rfl⟩
      refine ⟨?_, rfl⟩
      rw [List.take_of_length_le (by omega)]
      congr 2
      simp

/-- What hits hands out. -/
def HitsDone (k : Nat) (S : List Msg) (L : List Pst) (ws : List ByteArray) (w : World) (e : Ending) (w' : World) : Prop :=
  ∃ (A' : Option Addr) (n' c' : Nat) (o : List Hit) (places : List Int), e = .returned (.agg #[.bool (decide (0 < n')), .int .i64 0, .slice A' n' c']) ∧ (∀ x, x ∈ places ↔ inAll L ws x) ∧ FirstK k (hitsL S places) o ∧ w'.ownsRow w.heap.size 43 2 (.slice A' n' c') n' (hitsV o) ∧ Below w.heap.size w w'
theorem hits_snoc (S : List Msg) (x : Msg) (places : List Int) : hitsL (S ++ [x]) places = hitsL S places ++ (if x.dir = 0 ∧ x.v ∈ places then [⟨x.v, x.d⟩] else []) := by
  unfold hitsL
  rw [List.filter_append, List.map_append]
  congr 1
  by_cases h : x.dir = 0 ∧ x.v ∈ places
  · simp [h]
  · rw [if_neg h]
    simp [h]
theorem hitsL_len (S : List Msg) (places : List Int) : (hitsL S places).length ≤ S.length := by
  unfold hitsL
  rw [List.length_map]
  exact List.length_filter_le _ _

set_option maxRecDepth 100000 in
set_option maxHeartbeats 4000000 in
theorem hits_c (q : QuA) (A : Option Addr) (n c : Nat) (L : List Pst) (As : Option Addr) (ns cs : Nat) (S : List Msg) (ws : List ByteArray) (k : Nat) (w : World) (hl : PsIn w w.heap.size A n L) (hn : n ≤ 1000000) (hp : ∀ p ∈ L, p.n ≤ 1000) (hw : Reads w w.heap.size 1 q.W q.nw (sv ws)) (hnw : q.nw ≤ 9223372036854775807) (hcw : q.nw ≤ q.cw) (h0 : q.nw ≠ 0) (hk : q.most = (k : Int)) (hk2 : 1 ≤ k ∧ k ≤ 1000) (hr : Reads w w.heap.size 4 As ns (mv S)) (hns : ns ≤ 100000) :
    Calls Tryz.prog 64 #[quVal q, .slice A n c, .slice As ns cs] w fun e w' => HitsDone k S L ws w e w' := by
  show Calls Tryz.prog 64 #[.agg #[.int .i64 q.kind, .int .i64 q.src, .int .i64 q.dst, .slice q.W q.nw q.cw, .int .i64 q.radius, .int .i64 q.most], .slice A n c, .slice As ns cs] w _
  have hB0 := below_two w (quBox q) (ansBox false 0 none 0 0)
  have HQ0 : Hid (((w.alloc (quBox q)).alloc (ansBox false 0 none 0 0)).heap[w.heap.size]? = some (quBox q)) := (Below.heap_alloc _ _ _ (by simp)).trans (World.alloc_heap_new w _)
  have HN0 : Hid (((w.alloc (quBox q)).alloc (ansBox false 0 none 0 0)).heap[w.heap.size + 1]? = some (ansBox false 0 none 0 0)) := by
    have := World.alloc_heap_new (w.alloc (quBox q)) (ansBox false 0 none 0 0)
    rw [World.size_alloc] at this
    exact this
  have hkk := Lib.hid hk
  have HALL := Lib.hid (postAll_c (A := A) (c := c) (L := L) q.W q.nw q.cw ws ((hl.below hB0).more hB0.size) hn hp ((hw.below hB0).more hB0.size) hnw hcw)
  have h0' := Lib.hid h0
  have HR := Lib.hid hr
  have HL : Hid (S.length = ns) := hr.mail_len
  have HB0 := Lib.hid hB0
  unfold quBox at HALL HQ0 HB0
  clear hl hn hp hw hnw hcw h0 hk hr hB0
  have g1 : ¬ (if q.nw = 0 then (1 : Int) else 0) = 1 := by rw [if_neg h0'.out]; decide
  go_enter Tryz.func64, Tryz.ntmps64
  go_wp2_with (fail)
  refine HALL.out.mono ?_
  rintro e w1 ⟨A1, n1, c1, ps, rfl, hn1, hps, ho1, hB1⟩
  rw [if_neg h0'.out]
  have HPS := Lib.hid (hps h0'.out)
  have HB1 := Lib.hid (HB0.out.trans (hB1.mono HB0.out.size))
  have HQ1 : Hid (w1.heap[w.heap.size]? = some (.cells #[.int .i64 q.kind, .int .i64 q.src, .int .i64 q.dst, .slice q.W q.nw q.cw, .int .i64 q.radius, .int .i64 q.most] 24 (0, 0))) := (hB1.block _ (Array.getElem?_eq_some_iff.1 HQ0.out).1).trans HQ0.out
  have HN1 : Hid (w1.heap[w.heap.size + 1]? = some (ansBox false 0 none 0 0)) := (hB1.block _ (Array.getElem?_eq_some_iff.1 HN0.out).1).trans HN0.out
  have HO1 := Lib.hid ho1
  have HR1 := Lib.hid ((HR.out.below HB1.out).more HB1.out.size)
  have hs1 : w.heap.size + 2 ≤ w1.heap.size := by have := (Array.getElem?_eq_some_iff.1 HN1.out).1; omega
  clear hB1 ho1 hps HQ0 HN0 HB0 HALL g1 HR
  go_wp2_with (fail)
  go_loopw [24, 9] (fun i out wr => ∃ (j m : Nat) (Ah : Option Addr) (ch : Nat), j ≤ ns ∧ i = .int .i64 j ∧ out = .slice Ah m ch ∧ m = (hitsL (S.take j) ps).length ∧ wr.ownsRow w1.heap.size 43 2 (.slice Ah m ch) m (hitsV (hitsL (S.take j) ps)) ∧ Below w1.heap.size w1 wr) (fun i _ _ => ns - (intOf i).toNat)
  case atStart => exact ⟨0, 0, none, 0, Nat.zero_le _, rfl, rfl, rfl, by simpa [hitsL, hitsV] using own_nil, Below.refl _ _⟩
  case round =>
    obtain ⟨j, m, Ah, ch, hj, rfl, rfl, hm, ho, hB⟩ := hrel
    have HM := Lib.hid hm
    have hmn : m ≤ 100000 := by
      rw [hm]
      have h1 := hitsL_len (S.take j) ps
      have h2 : (S.take j).length ≤ ns := by rw [List.length_take]; omega
      omega
    clear hm
    by_cases hlt : j < ns
    · obtain ⟨b, o, x, rfl, hx, d0, d1, d2, d3⟩ := (HR1.out.below hB).mail_at hlt
      have HX := Lib.hid hx.out
      have htk : Hid (hitsL (S.take (j + 1)) ps = hitsL (S.take j) ps ++ (if x.dir = 0 ∧ x.v ∈ ps then [⟨x.v, x.d⟩] else [])) := by show _ = _; rw [List.take_add_one, HX.out, ← hits_snoc]; rfl
      have hbx := below_one wr (.cells #[.int .i64 x.slot, .int .i64 x.dir, .int .i64 x.v, .int .i64 x.d] 121)
      have HBX := Lib.hid (hB.trans (hbx.mono hB.size))
      have HOX := Lib.hid (own_below ho hbx)
      have HPX := Lib.hid (((own_reads HO1.out).below HBX.out).more HBX.out.size)
      have f1 : (0 : Int) ≤ (j : Int) := by omega
      have f2 : (j : Int) < (ns : Int) := by omega
      clear hx hB ho hbx
      by_cases hd : x.dir = 0
      · have hd1 : (x.dir == 0) = true := by simpa using hd
        have HD := Lib.hid hd
        clear hd
        go_wp2_with (fail)
        refine (contains_c A1 n1 c1 ps x.v _ _ HPX.out (by omega)).mono ?_
        rintro e w3 ⟨rfl, rfl⟩
        by_cases hin : x.v ∈ ps
        · rw [decide_eq_true hin]
          have htk2 : Hid (hitsL (S.take (j + 1)) ps = hitsL (S.take j) ps ++ [⟨x.v, x.d⟩]) := by show _ = _; rw [htk.out, if_pos ⟨HD.out, hin⟩]
          clear hin
          go_wp2_with (at_builtin; refine wpList_push elAHit rfl _ _ rfl HOX.out rfl _ rfl (by simp only [World.size_alloc]; rfl) (hitC_one ⟨x.v, x.d⟩) (by unfold maxLen; omega) (by omega) HBX.out.size ?_; intro A4 c4 w4 hoo4 p4)
          have hB4 := Lib.hid (p4.below HOX.out HBX.out (Nat.le_refl _) HBX.out.size)
          have hO4 := Lib.hid hoo4
          clear p4 hoo4
          go_roundw
          case rel =>
            refine ⟨j + 1, m + 1, A4, c4, by omega, by go_num, rfl, by rw [htk2.out, List.length_append, ← HM.out]; rfl, ?_, hB4.out⟩
            rw [htk2.out, hitsV_append]
            simpa [hitsV, hitC] using hO4.out
          case measure => simp [intOf]; omega
        · rw [decide_eq_false hin]
          have htk2 : Hid (hitsL (S.take (j + 1)) ps = hitsL (S.take j) ps) := by show _ = _; rw [htk.out, if_neg (fun h => hin h.2), List.append_nil]
          clear hin
          go_wp2_with (fail)
          go_roundw
          case rel => exact ⟨j + 1, m, Ah, ch, by omega, by go_num, rfl, by rw [htk2.out]; exact HM.out, by rw [htk2.out]; exact HOX.out, HBX.out⟩
          case measure => simp [intOf]; omega
      · have hd1 : (x.dir == 0) = false := by simpa using hd
        have htk2 : Hid (hitsL (S.take (j + 1)) ps = hitsL (S.take j) ps) := by show _ = _; rw [htk.out, if_neg (fun h => hd h.1), List.append_nil]
        clear hd
        go_wp2_with (fail)
        go_roundw
        case rel => exact ⟨j + 1, m, Ah, ch, by omega, by go_num, rfl, by rw [htk2.out]; exact HM.out, by rw [htk2.out]; exact HOX.out, HBX.out⟩
        case measure => simp [intOf]; omega
    · obtain rfl : j = ns := by omega
      have HO : Hid (wr.ownsRow w1.heap.size 43 2 (.slice Ah m ch) m (hitsV (hitsL S ps))) := by
        rw [List.take_of_length_le (by rw [HL.out]; exact Nat.le_refl _)] at ho
        exact ho
      have HB := Lib.hid (HB1.out.trans (hB.mono HB1.out.size))
      have HQ : Hid (wr.heap[w.heap.size]? = some (.cells #[.int .i64 q.kind, .int .i64 q.src, .int .i64 q.dst, .slice q.W q.nw q.cw, .int .i64 q.radius, .int .i64 q.most] 24 (0, 0))) := (hB.block _ (by omega)).trans HQ1.out
      have HN : Hid (wr.heap[w.heap.size + 1]? = some (ansBox false 0 none 0 0)) := (hB.block _ (by omega)).trans HN1.out
      have q5 : wr.cell? ⟨w.heap.size, 5, none⟩ = some (.int .i64 q.most) := by rw [Lib.cell_of_heap HQ.out]; rfl
      clear ho hB HO1 HR1 HQ1 HN1 HM
      go_wp2_with (fail)
      rw [hkk.out]
      refine (first_c Ah m ch (hitsL S ps) k wr (own_reads HO.out) (by omega) hk2).mono ?_
      rintro e w3 ⟨A3, n3, c3, o3, rfl, hf3, ho3, hB3⟩
      have HO3 := Lib.hid (own_more (base := w.heap.size) ho3 HB.out.size)
      have HB3 := Lib.hid (HB.out.trans (hB3.mono HB.out.size))
      have hn3 : w3.heap[w.heap.size + 1]? = some (ansBox false 0 none 0 0) := (hB3.block _ (Array.getElem?_eq_some_iff.1 HN.out).1).trans HN.out
      obtain ⟨a0, a1, a2⟩ := ans_cells hn3
      have y0 := Lib.frozen_of_heap hn3 0
      have y1 := Lib.frozen_of_heap hn3 1
      have y2 := Lib.frozen_of_heap hn3 2
      have hne : Hid (∀ a, A3 = some a → a.block ≠ w.heap.size + 1) := fun a ha e => by
        have := (own_lt ho3 a ha).1
        have := (Array.getElem?_eq_some_iff.1 HN.out).1
        omega
      clear ho3 hB3 q5 hn3
      go_wp2_with (fail)
      refine ans_end (fd := decide (0 < n3)) (d := 0) (A := A3) (n := n3) (c := c3) (o := w.heap.size + 1) rfl rfl rfl (by first | go_cell | (simp; go_cell)) (by go_cell) (by go_cell) ⟨A3, n3, c3, o3, ps, rfl, HPS.out, hf3.out, ?_, ?_⟩
      · exact own_only HO3.out (ans_grown w3 (w.heap.size + 1) _ _ _) (fun a ha e => hne.out a ha (by injection e))
      · exact ((HB3.out.setCell (p := ⟨w.heap.size + 1, 0, none⟩) (Nat.le_succ _) _).setCell (p := ⟨w.heap.size + 1, 1, none⟩) (Nat.le_succ _) _).setCell (p := ⟨w.heap.size + 1, 2, none⟩) (Nat.le_succ _) _
end Go.Proofs.YtpdnipabaimofaaGreat

namespace Go.Proofs.YtpdnipabaimofaaGreat
open Go.RowKit Go.Shelf Go.Lib

section
variable (B : Nat) (p : Msg → Bool)
set_option maxRecDepth 100000 in
set_option maxHeartbeats 2000000 in
theorem indexD_c (A : Option Addr) (n c : Nat) (l : List Msg) (w : World) (hr : Reads w w.heap.size 4 A n (mv l)) (hn : n ≤ maxLen)
    (HP : ∀ x ∈ l, ∀ W : World, Below w.heap.size w W → Calls Tryz.prog 61 #[.agg #[.int .i64 x.slot, .int .i64 x.dir, .int .i64 x.v, .int .i64 x.d], .pointer (some ⟨B, 0, none⟩)] W fun e w' => e = .returned (.bool (p x)) ∧ Below W.heap.size W w') :
    Calls Tryz.prog 89 #[.slice A n c, .func (.func 61) #[] #[.pointer (some ⟨B, 0, none⟩)]] w fun e w' => e = .returned (.int .i64 (idxI p l)) ∧ Below w.heap.size w w' := by
  have hl := Lib.hid hr.mail_len
  unfold maxLen at hn
  have HR := Lib.hid hr
  have HPP := Lib.hid HP
  clear hr HP
  go_enter Tryz.func89, Tryz.ntmps89
  go_wp2_with (fail)
  go_loopw [8] (fun i wr => ∃ j : Nat, j ≤ n ∧ i = .int .i64 j ∧ Hid (∀ y ∈ l.take j, p y = false) ∧ Below w.heap.size w wr) (fun i _ => n - (intOf i).toNat)
  case atStart => exact ⟨0, Nat.zero_le _, rfl, fun y hy => by simp at hy, Below.refl _ _⟩
  case round =>
    obtain ⟨j, hj, rfl, hT, hB⟩ := hrel
    by_cases hlt : j < n
    · obtain ⟨b, o, x, rfl, hx, d0, d1, d2, d3⟩ := (HR.out.below hB).mail_at hlt
      have HX := Lib.hid hx.out
      have HB := Lib.hid hB
      clear hx hB
      have f1 : (0 : Int) ≤ (j : Int) := by omega
      have f2 : (j : Int) < (n : Int) := by omega
      go_wp2_with (fail)
      refine (HPP.out x (List.mem_of_getElem? HX.out) wr HB.out).mono ?_
      rintro e w1 ⟨rfl, hB1⟩
      have HB1 := Lib.hid (HB.out.trans (hB1.mono HB.out.size))
      clear hB1 d0 d1 d2 d3
      by_cases hp : p x = true
      · have hi : Hid (idxI p l = (j : Int)) := by show _ = _; unfold idxI; rw [idx_at hT.out HX.out hp]; rfl
        rw [hp]
        go_wp2_with (fail)
        go_ret
        exact ⟨ret_int hi.out.symm, HB1.out⟩
      · have hp' : p x = false := by simpa using hp
        rw [hp']
        have hT' : Hid (∀ y ∈ l.take (j + 1), p y = false) := fun y hy => by
          rw [List.take_add_one, HX.out, Option.toList_some] at hy
          rcases List.mem_append.1 hy with hy | hy
          · exact hT.out y hy
          · rw [List.mem_singleton.1 hy]; exact hp'
        clear hp hp'
        go_wp2_with (fail)
        go_roundw
        case rel => exact ⟨j + 1, by omega, by go_num, hT', HB1.out⟩
        case measure => simp [intOf]; omega
    · obtain rfl : j = n := by omega
      have hi : Hid (idxI p l = -1) := by
        show _ = _
        unfold idxI
        rw [idx_none (fun y hy => hT.out y (by rw [List.take_of_length_le (by rw [hl.out]; exact Nat.le_refl _)]; exact hy))]
        rfl
      go_wp2_with (fail)
      go_ret
      exact ⟨ret_int hi.out.symm, hB⟩

end
set_option maxRecDepth 100000 in
theorem done11_c (x : Msg) (B : Nat) (m : Int) (W : World) (hc : W.cell? ⟨B, 0, none⟩ = some (.int .i64 m)) :
    Calls Tryz.prog 61 #[.agg #[.int .i64 x.slot, .int .i64 x.dir, .int .i64 x.v, .int .i64 x.d], .pointer (some ⟨B, 0, none⟩)] W fun e w' => e = .returned (.bool (x.dir == m)) ∧ Below W.heap.size W w' := by
  have hc' := ((below_one W (.cells #[.int .i64 x.slot, .int .i64 x.dir, .int .i64 x.v, .int .i64 x.d] 79)).cell (p := ⟨B, 0, none⟩) (block_lt_of_cell hc)).trans hc
  clear hc
  go_enter Tryz.func61, Tryz.ntmps61
  go_wp2_with (fail)
  go_ret
  exact ⟨rfl, below_one _ _⟩
set_option maxRecDepth 100000 in
theorem containsD_c (A : Option Addr) (n c B : Nat) (l : List Msg) (m : Int) (w : World) (hr : Reads w w.heap.size 4 A n (mv l)) (hn : n ≤ maxLen) (hB : B < w.heap.size) (hc : w.cell? ⟨B, 0, none⟩ = some (.int .i64 m)) :
    Calls Tryz.prog 53 #[.slice A n c, .func (.func 61) #[] #[.pointer (some ⟨B, 0, none⟩)]] w fun e w' => e = .returned (.bool (l.any fun x => x.dir == m)) ∧ Below w.heap.size w w' := by
  have HI := Lib.hid (indexD_c B (fun x => x.dir == m) A n c l w hr hn (fun x _ W hW => done11_c x B m W ((hW.cell (p := ⟨B, 0, none⟩) hB).trans hc)))
  clear hr hc
  go_enter Tryz.func53, Tryz.ntmps53
  go_wp2_with (fail)
  refine Calls.mono HI.out ?_
  rintro e w1 ⟨rfl, hB1⟩
  have HB := Lib.hid hB1
  clear hB1
  generalize hi : idxI (fun x => x.dir == m) l = i
  have HE : Hid (decide (0 ≤ i) = l.any fun x => x.dir == m) := by show _ = _; rw [← hi]; exact idx_any _ _
  clear hi
  go_wp2_with (fail)
  go_ret
  exact ⟨ret_bool HE.out, HB.out⟩
set_option maxRecDepth 100000 in
theorem done1_c (A : Option Addr) (n c bm : Nat) (M : List Msg) (m : Int) (w : World) (hr : Reads w w.heap.size 4 A n (mv M)) (hn : n ≤ 1000000) (hc : w.cell? ⟨bm, 0, none⟩ = some (.slice A n c)) :
    Calls Tryz.prog 60 #[.int .i64 m, .pointer (some ⟨bm, 0, none⟩)] w fun e w' => e = .returned (.bool (M.any fun x => x.dir == m)) ∧ Below w.heap.size w w' := by
  have hmf : ∀ (fn : Fn) (first cap : Array Value) (w : World), (Instr.makeFunc fn first cap).run Tryz.prog w = .ok (.func fn first cap) w := fun _ _ _ _ => rfl
  have hb := below_one w (.cells #[.int .i64 m] 3)
  have hc' : (w.alloc (.cells #[.int .i64 m] 3)).cell? ⟨bm, 0, none⟩ = some (.slice A n c) := (hb.cell (p := ⟨bm, 0, none⟩) (block_lt_of_cell hc)).trans hc
  have HI := Lib.hid (containsD_c A n c w.heap.size M m _ ((hr.below hb).more hb.size) (by unfold maxLen; omega) (by simp) (by rw [Lib.cell_of_heap (World.alloc_heap_new w (.cells #[.int .i64 m] 3))]; rfl))
  have HB := Lib.hid hb
  clear hr hc hb
  go_enter Tryz.func60, Tryz.ntmps60
  go_wp2_with (fail)
  refine HI.out.mono ?_
  rintro e w1 ⟨rfl, hB1⟩
  have HB1 := Lib.hid (HB.out.trans (hB1.mono HB.out.size))
  clear hB1 hc'
  go_wp2_with (fail)
  go_ret
  exact ⟨rfl, HB1.out⟩
theorem any_dir (M : List Msg) (m : Int) : (M.any fun x => x.dir == m) = false ↔ ∀ x ∈ M, x.dir ≠ m := by
  rw [List.any_eq_false]
  simp

/-- What Done tells of a distance. -/
def DoneFar (S M : List Msg) (w : World) (e : Ending) (w' : World) : Prop :=
  ∃ (fd : Bool) (d : Int) (r : Bool), e = .returned (.tuple #[.agg #[.bool fd, .int .i64 d, .slice none 0 0], .bool r]) ∧ MeetIs S fd d ∧ (r = true ↔ fd = true ∨ (∀ x ∈ M, x.dir ≠ 0) ∨ (∀ x ∈ M, x.dir ≠ 1)) ∧ Below w.heap.size w w'
theorem pair_end {fn : Func} {a : Act} {w : World} {R : Ending → World → Prop} {o n c : Nat} {A : Option Addr} {fd r : Bool} {d : Int} (hr : fn.results = #[.cell 8 36, .tmp 9]) (ht : a.tmps.getD 8 undef = .pointer (some ⟨o, 0, none⟩)) (ht9 : a.tmps.getD 9 undef = .bool r) (hd : a.defers = [])
    (h0 : w.cell? ⟨o, 0, none⟩ = some (.bool fd)) (h1 : w.cell? ⟨o, 1, none⟩ = some (.int .i64 d)) (h2 : w.cell? ⟨o, 2, none⟩ = some (.slice A n c)) (h : R (.returned (.tuple #[.agg #[.bool fd, .int .i64 d, .slice A n c], .bool r])) w) : bodyPost Tryz.prog fn R Exit.ret a w := by
  refine bodyPost_ret (v := .tuple #[.agg #[.bool fd, .int .i64 d, .slice A n c], .bool r]) ?_ hd h
  rw [Array.getD_eq_getD_getElem?] at ht ht9
  simp [results, hr, ht, ht9, h0, h1, h2, go_sem]
/-- The boxes that Done begins with. -/
structure DnAt (w : World) (q : QuA) (Am : Option Addr) (nm cm : Nat) (W : World) : Prop where
  q_ : W.heap[w.heap.size]? = some (quBox q)
  m_ : W.heap[w.heap.size + 1]? = some (.cells #[.slice Am nm cm] 57 (0, 0))
  a_ : W.heap[w.heap.size + 2]? = some (ansBox false 0 none 0 0)
  bel : Below w.heap.size w W
section
variable {w W W' : World} {q : QuA} {Am : Option Addr} {nm cm : Nat}
theorem DnAt.lt (h : DnAt w q Am nm cm W) : w.heap.size + 2 < W.heap.size := (Array.getElem?_eq_some_iff.1 h.a_).1
theorem DnAt.step (h : DnAt w q Am nm cm W) (hB : Below W.heap.size W W') : DnAt w q Am nm cm W' :=
  have hl := h.lt
  ⟨(hB.block _ (by omega)).trans h.q_, (hB.block _ (by omega)).trans h.m_, (hB.block _ (by omega)).trans h.a_, h.bel.trans (hB.mono (by omega))⟩
theorem dnAt_new (w : World) (q : QuA) (Am : Option Addr) (nm cm : Nat) : DnAt w q Am nm cm (((w.alloc (quBox q)).alloc (.cells #[.slice Am nm cm] 57)).alloc (ansBox false 0 none 0 0)) := by
  have h1 := (w.alloc (quBox q)).alloc_heap_new (.cells #[.slice Am nm cm] 57)
  have h2 := ((w.alloc (quBox q)).alloc (.cells #[.slice Am nm cm] 57)).alloc_heap_new (ansBox false 0 none 0 0)
  have s1 : (w.alloc (quBox q)).heap.size = w.heap.size + 1 := World.size_alloc _ _
  have s2 : ((w.alloc (quBox q)).alloc (.cells #[.slice Am nm cm] 57)).heap.size = w.heap.size + 2 := by rw [World.size_alloc, s1]
  rw [s1] at h1
  rw [s2] at h2
  refine ⟨?_, ?_, h2, (below_two w _ _).alloc (by simp; omega) _⟩
  · rw [Below.heap_alloc _ _ _ (by omega), Below.heap_alloc _ _ _ (by omega)]
    exact World.alloc_heap_new w _
  · rw [Below.heap_alloc _ _ _ (by omega)]
    exact h1
theorem DnAt.qc (h : DnAt w q Am nm cm W) : W.cell? ⟨w.heap.size, 0, none⟩ = some (.int .i64 q.kind) ∧ W.cell? ⟨w.heap.size, 1, none⟩ = some (.int .i64 q.src) ∧ W.cell? ⟨w.heap.size, 2, none⟩ = some (.int .i64 q.dst) ∧ W.cell? ⟨w.heap.size, 3, none⟩ = some (.slice q.W q.nw q.cw) ∧ W.cell? ⟨w.heap.size, 4, none⟩ = some (.int .i64 q.radius) ∧ W.cell? ⟨w.heap.size, 5, none⟩ = some (.int .i64 q.most) := by
  refine ⟨?_, ?_, ?_, ?_, ?_, ?_⟩ <;> · rw [Lib.cell_of_heap h.q_]; rfl
theorem DnAt.mc (h : DnAt w q Am nm cm W) : W.cell? ⟨w.heap.size + 1, 0, none⟩ = some (.slice Am nm cm) := by rw [Lib.cell_of_heap h.m_]; rfl
theorem DnAt.ac (h : DnAt w q Am nm cm W) : (W.cell? ⟨w.heap.size + 2, 0, none⟩ = some (.bool false) ∧ W.cell? ⟨w.heap.size + 2, 1, none⟩ = some (.int .i64 0) ∧ W.cell? ⟨w.heap.size + 2, 2, none⟩ = some (.slice none 0 0)) ∧ W.frozen? ⟨w.heap.size + 2, 0, none⟩ = false ∧ W.frozen? ⟨w.heap.size + 2, 1, none⟩ = false ∧ W.frozen? ⟨w.heap.size + 2, 2, none⟩ = false :=
  ⟨ans_cells h.a_, Lib.frozen_of_heap h.a_ 0, Lib.frozen_of_heap h.a_ 1, Lib.frozen_of_heap h.a_ 2⟩
end
end Go.Proofs.YtpdnipabaimofaaGreat
