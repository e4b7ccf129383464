/-
  The reference parses an image.
-/
import Derived.Test.YtmnjlhifjjainaaImgGetR
namespace Go.Proofs.Ytmnjlhifjjainaa
open Go.RowKit

/-- What the reference has made so far. -/
structure RSt (w wr : World) (b : Nat) (N : Int) (ps : List (List Int × List ByteArray)) (es : List Edg) (A1 : Option Addr) (n1 c1 : Nat) (A2 : Option Addr) (c2 : Nat) (us : List Value) : Prop where
  lt : w.heap.size < b
  g : GAt wr b N A1 n1 c1 A2 ps.length c2
  z : GAt wr w.heap.size 0 none 0 0 none 0 0
  es : wr.ownsRow (b + 1) 97 2 (.slice A1 n1 c1) n1 (ev es)
  ws : wr.ownsRow (b + 1) 22 1 (.slice A2 ps.length c2) ps.length us
  rs : RowsOwn wr (b + 1) 9 1 us (wv (ps.map Prod.snd))
  bel : Below w.heap.size w wr
section
variable {w wr w' : World} {b : Nat} {N : Int} {ps : List (List Int × List ByteArray)} {es : List Edg} {A1 A2 : Option Addr} {n1 c1 c2 : Nat} {us : List Value}
theorem RSt.size (h : RSt w wr b N ps es A1 n1 c1 A2 c2 us) : b + 1 ≤ wr.heap.size := h.g.lt
theorem RSt.step (h : RSt w wr b N ps es A1 n1 c1 A2 c2 us) (hB : Below wr.heap.size wr w') : RSt w w' b N ps es A1 n1 c1 A2 c2 us :=
  ⟨h.lt, h.g.below hB h.g.lt, h.z.below hB h.z.lt, own_below h.es hB, own_below h.ws hB, h.rs.below hB, h.bel.trans (hB.mono h.bel.size)⟩
theorem RSt.drew (h : RSt w wr b N ps es A1 n1 c1 A2 c2 us) : RSt w wr.drew b N ps es A1 n1 c1 A2 c2 us := h.step (Below.refl _ _).drew
theorem RSt.edge {A' : Option Addr} {c' : Nat} {x : Edg} (h : RSt w wr b N ps es A1 n1 c1 A2 c2 us) (ho : w'.ownsRow (b + 1) 97 2 (.slice A' (n1 + 1) c') (n1 + 1) (ev es ++ (ec x).toArray.toList)) (q : Pushed wr w' A1 A') :
    RSt w (w'.setCell ⟨b, 1, none⟩ (.slice A' (n1 + 1) c')) b N ps (es ++ [x]) A' (n1 + 1) c' A2 c2 us := by
  have hlt := h.lt
  have hb := q.below h.es (Below.refl (b + 1) wr) (Nat.le_refl _) h.size
  have hs := only_setCellS (only_refl w' (some b)) 1 (.slice A' (n1 + 1) c')
  have hapw : ApartAll us A1 := h.rs.apart_ne h.es (by decide)
  have hape : Apart A2 A1 := own_ne h.ws h.es (by decide)
  refine ⟨hlt, (h.g.below hb (by omega)).set1, (h.z.below hb (by omega)).only hs (by omega), ?_, isF_own (q.keep h.ws hape) hs (by omega), (h.rs.kept q hapw).only hs (by omega), (h.bel.trans (hb.mono (by omega))).setCell (p := ⟨b, 1, none⟩) (Nat.le_of_lt hlt) _⟩
  rw [ev_append, show ev [x] = ec x by simp [ev]]
  exact isF_own ho hs (by omega)
theorem RSt.row {A' A7 : Option Addr} {c' c7 n : Nat} {x : List Int × List ByteArray} (h : RSt w wr b N ps es A1 n1 c1 A2 c2 us) (ho : w'.ownsRow (b + 1) 22 1 (.slice A' (ps.length + 1) c') (ps.length + 1) (us ++ [.slice A7 n c7])) (q : Pushed wr w' A2 A')
    (h7 : wr.ownsRow (b + 1) 9 1 (.slice A7 n c7) n (sv x.2)) (hap : ApartAll us A7) :
    RSt w (w'.setCell ⟨b, 2, none⟩ (.slice A' (ps.length + 1) c')) b N (ps ++ [x]) es A1 n1 c1 A' c' (us ++ [.slice A7 n c7]) := by
  have hlt := h.lt
  have hb := q.below h.ws (Below.refl (b + 1) wr) (Nat.le_refl _) h.size
  have hs := only_setCellS (only_refl w' (some b)) 2 (.slice A' (ps.length + 1) c')
  have hapw : ApartAll us A2 := h.rs.apart_ne h.ws (by decide)
  have hape : Apart A1 A2 := own_ne h.es h.ws (by decide)
  have hap7 : Apart A7 A2 := own_ne h7 h.ws (by decide)
  have e : (ps ++ [x]).length = ps.length + 1 := by rw [List.length_append]; rfl
  refine ⟨hlt, ?_, (h.z.below hb (by omega)).only hs (by omega), isF_own (q.keep h.es hape) hs (by omega), ?_, ?_, (h.bel.trans (hb.mono (by omega))).setCell (p := ⟨b, 2, none⟩) (Nat.le_of_lt hlt) _⟩
  · rw [e]
    exact (h.g.below hb (by omega)).set2
  · rw [e]
    exact isF_own ho hs (by omega)
  · have e2 : wv ((ps ++ [x]).map Prod.snd) = wv (ps.map Prod.snd) ++ [sv x.2] := by
      rw [List.map_append, wv_append]
      rfl
    rw [e2]
    exact ((h.rs.kept q hapw).snoc (q.keep h7 hap7) hap).only hs (by omega)
end

theorem rparse_no {a : Act} {w W : World} {s : ByteArray} (ht : a.tmps.getD 2 undef = .pointer (some ⟨w.heap.size, 0, none⟩)) (he : a.tmps.getD 3 undef = .int .i64 30) (hd : a.defers = []) (hz : GAt W w.heap.size 0 none 0 0 none 0 0) (hB : Below w.heap.size w W) (h : parseO s = none) :
    bodyPost Try.prog Try.f33 (fun e w' => GotG w w' s e) Exit.ret a W := by
  obtain ⟨c0, c1, c2⟩ := hz.cells
  refine bodyPost_ret (v := .tuple #[.agg #[.int .i64 0, .slice none 0 0, .slice none 0 0], .int .i64 30]) ?_ hd ?_
  · rw [Array.getD_eq_getD_getElem?] at ht he
    simp [results, Try.results33, ht, he, c0, c1, c2, go_sem]
  · obtain ⟨k1, k2⟩ := parse_none h
    refine ⟨none, 0, 0, none, 0, 0, [], ?_, ?_, hB⟩
    · rw [k1, k2]; rfl
    · rw [k1]; exact grIn_no _ _
theorem rparse_yes {a : Act} {w W : World} {s : ByteArray} {g : Gr} {A1 A2 : Option Addr} {n1 c1 n2 c2 : Nat} {us : List Value} (ht : a.tmps.getD 2 undef = .pointer (some ⟨w.heap.size, 0, none⟩)) (he : a.tmps.getD 3 undef = .int .i64 0) (hd : a.defers = [])
    (hz : GAt W w.heap.size g.n A1 n1 c1 A2 n2 c2) (hG : GrIn W W.heap.size g A1 n1 A2 n2 us) (hB : Below w.heap.size w W) (h : parseO s = some g) :
    bodyPost Try.prog Try.f33 (fun e w' => GotG w w' s e) Exit.ret a W := by
  obtain ⟨c0, c1', c2'⟩ := hz.cells
  refine bodyPost_ret (v := .tuple #[.agg #[.int .i64 g.n, .slice A1 n1 c1, .slice A2 n2 c2], .int .i64 0]) ?_ hd ?_
  · rw [Array.getD_eq_getD_getElem?] at ht he
    simp [results, Try.results33, ht, he, c0, c1', c2', go_sem]
  · obtain ⟨k1, k2⟩ := parse_some h
    refine ⟨A1, n1, c1, A2, n2, c2, us, ?_, ?_, hB⟩
    · rw [k1, k2]
    · rw [k1]; exact hG

theorem parse_ref_no {s : ByteArray} {g : Gr} {p : Nat} (hm : marked s) (h : rdG (rest s) = some (g, p)) (hn : ¬ (printE g = 0 ∧ printS g = s)) : parseO s = none := by rw [parse_ref hm h, if_neg hn]
theorem parse_ref_yes {s : ByteArray} {g : Gr} {p : Nat} (hm : marked s) (h : rdG (rest s) = some (g, p)) (hn : printE g = 0 ∧ printS g = s) : parseO s = some g := by rw [parse_ref hm h, if_pos hn]
theorem printE_cases (g : Gr) : printE g = 0 ∨ printE g = 20 := by unfold printE; split <;> simp

set_option maxRecDepth 100000 in
set_option maxHeartbeats 1000000 in
theorem refParse0_c (s : ByteArray) (w : World) (hs : s.size ≤ 1000000) (hm : ¬ marked s) :
    Calls Try.prog 33 #[.string s] w fun e w' => GotG w w' s e := by
  have H := Lib.hid (parse_unmarked hm)
  have hz := Lib.hid (GAt.new w 0 none 0 0 none 0 0)
  by_cases h2 : 2 ≤ s.size
  · have h1 := mark_no hm
    have h1' : ((s.extract 0 2).toList != [119, 103]) = true := by unfold bne; rw [h1]; rfl
    have h2' : ¬ (s.size : Int) < 2 := by omega
    clear hm
    go_enter Try.func33, Try.ntmps33
    go_wp2_with (fail)
    exact rparse_no rfl rfl rfl hz.out (below_one _ _) H.out
  · have h2' : (s.size : Int) < 2 := by omega
    clear hm
    go_enter Try.func33, Try.ntmps33
    go_wp2_with (fail)
    exact rparse_no rfl rfl rfl hz.out (below_one _ _) H.out

set_option maxRecDepth 100000 in
set_option maxHeartbeats 4000000 in
theorem refParse1_c (s : ByteArray) (w : World) (hs : s.size ≤ 1000000) (hm : marked s) :
    Calls Try.prog 33 #[.string s] w fun e w' => GotG w w' s e := by
  have h1 := mark_yes hm
  have h1' : ((s.extract 0 2).toList != [119, 103]) = false := by unfold bne; rw [h1]; rfl
  have h2' : ¬ (s.size : Int) < 2 := by have := marked_size hm; omega
  have HM := Lib.hid hm
  have hz := Lib.hid (GAt.new w 0 none 0 0 none 0 0)
  have hr2 : rdAt s 2 = (rdAt (rest s) ((0 : Nat) : Int)).map fun x => (x.1, x.2 + 2) := rdAt_rest hm 0
  clear hm
  rcases h0 : rdAt (rest s) ((0 : Nat) : Int) with _ | ⟨n, q⟩
  · have H := Lib.hid (parse_no HM.out (rdG_none0 h0))
    rw [h0] at hr2
    have HR := Lib.hid hr2
    clear h0 hr2
    go_enter Try.func33, Try.ntmps33
    go_wp2_with (fail)
    refine (refReadNumberT s 2 _ hs).mono ?_
    rintro e w2 ⟨rfl, hB2⟩
    rw [HR.out]
    simp only [anNum, anPlace, Option.isSome_none, Option.map_none]
    have hz2 := hz.out.below hB2 hz.out.lt
    have hbel := Lib.hid ((below_one w (.cells #[.int .i64 0, .slice none 0 0, .slice none 0 0] 54)).trans (hB2.mono (by simp)))
    obtain ⟨e0, e1, e2⟩ := hz2.cells
    have f0 := hz2.frozen 0
    have f1 := hz2.frozen 1
    have f2 := hz2.frozen 2
    have HZ := Lib.hid hz2
    clear hz2 hB2
    go_wp2_with (fail)
    refine (show bodyPost _ _ _ Exit.ret _ (putG w2 w.heap.size 0 none 0 0 none 0 0) from ?_)
    exact rparse_no rfl rfl rfl (putG_at HZ.out 0 none 0 0 none 0 0) (putG_below hbel.out (Nat.le_refl _) 0 none 0 0 none 0 0) H.out
  · rw [h0, Option.map_some] at hr2
    have HR := Lib.hid hr2
    have H0 := Lib.hid h0
    clear h0 hr2
    go_enter Try.func33, Try.ntmps33
    go_wp2_with (fail)
    refine (refReadNumberT s 2 _ hs).mono ?_
    rintro e w2 ⟨rfl, hB2⟩
    rw [HR.out]
    simp only [anNum, anPlace, Option.isSome_some]
    have hz2 := hz.out.below hB2 hz.out.lt
    have hbel := Lib.hid ((below_one w (.cells #[.int .i64 0, .slice none 0 0, .slice none 0 0] 54)).trans (hB2.mono (by simp)))
    have HZ := Lib.hid hz2
    clear hB2 hz h1 h1' h2'
    by_cases hn : n ≤ 200
    rotate_left
    · have H := Lib.hid (parse_no HM.out (rdG_big H0.out hn))
      obtain ⟨e0, e1, e2⟩ := hz2.cells
      have f0 := hz2.frozen 0
      have f1 := hz2.frozen 1
      have f2 := hz2.frozen 2
      clear hz2
      go_wp2_with (fail)
      refine (show bodyPost _ _ _ Exit.ret _ (putG w2 w.heap.size 0 none 0 0 none 0 0) from ?_)
      exact rparse_no rfl rfl rfl (putG_at HZ.out 0 none 0 0 none 0 0) (putG_below hbel.out (Nat.le_refl _) 0 none 0 0 none 0 0) H.out
    · have hB3 := below_one w2 (.cells #[.int .i64 (n : Int), .slice none 0 0, .slice none 0 0] 54)
      have hst : RSt w (w2.alloc (.cells #[.int .i64 (n : Int), .slice none 0 0, .slice none 0 0] 54)) w2.heap.size n [] [] none 0 0 none 0 [] :=
        ⟨hz2.lt, GAt.new _ _ _ _ _ _ _ _, hz2.below hB3 hz2.lt, own_nil, own_nil, rowsOwn_nil _ _ _ _, hbel.out.trans (hB3.mono hbel.out.size)⟩
      have HST := Lib.hid hst
      clear hst hB3 hz2
      go_wp2_with (fail)
      generalize w2.alloc (.cells #[.int .i64 (n : Int), .slice none 0 0, .slice none 0 0] 54) = w3 at HST ⊢
      generalize w2.heap.size = b at HST ⊢
      go_loopw [5, 8] (fun at_ i wr => ∃ (k n1 c1 c2 p : Nat) (ps : List (List Int × List ByteArray)) (A1 A2 : Option Addr) (us : List Value), k ≤ n ∧ i = .int .i64 k ∧ at_ = .int .i64 ((p : Int) + 2) ∧ Hid (ps.length = k) ∧ n1 ≤ 4000 * k ∧ Hid (rdPlaces (rest s) k q = some (ps, p)) ∧
          RSt w wr b n ps (esOf ps) A1 n1 c1 A2 c2 us) (fun _ i _ => n - (intOf i).toNat)
      case atStart => exact ⟨0, 0, 0, 0, q, [], none, none, [], Nat.zero_le _, rfl, rfl, rfl, Nat.zero_le _, rfl, HST.out⟩
      case round =>
        clear HST
        obtain ⟨k, n1, c1, c2, p, ps, A1, A2, us, hk, rfl, rfl, hpl, hn1, hrd, hp⟩ := hrel
        have HP := Lib.hid hp
        clear hp
        have hpl2 := hpl.out
        subst hpl2
        have hmap := rdPlace_rest HM.out p
        by_cases hkn : ps.length < n
        · rcases h1 : rdPlace (rest s) p with _ | ⟨⟨xs, l⟩, p1⟩
          · have H := Lib.hid (parse_no HM.out (rdG_stop H0.out hrd.out h1 hkn))
            rw [h1, Option.map_none] at hmap
            have HMP := Lib.hid hmap
            clear hmap h1
            go_wp2_with (fail)
            refine (refPlace_c s (p + 2) _ hs).mono ?_
            rintro e w4 hpd
            rw [HMP.out] at hpd
            obtain ⟨rfl, hB4⟩ := hpd
            have hp4 := HP.out.step hB4
            obtain ⟨e0, e1, e2⟩ := hp4.z.cells
            have f0 := hp4.z.frozen 0
            have f1 := hp4.z.frozen 1
            have f2 := hp4.z.frozen 2
            have HP4 := Lib.hid hp4
            clear hp4 hB4 HP
            go_wp2_with (fail)
            refine (show bodyPost _ _ _ Exit.ret _ (putG w4 w.heap.size 0 none 0 0 none 0 0) from ?_)
            exact rparse_no rfl rfl rfl (putG_at HP4.out.z 0 none 0 0 none 0 0) (putG_below HP4.out.bel (Nat.le_refl _) 0 none 0 0 none 0 0) H.out
          · have hpx := Lib.hid h1
            have hxl : xs.length ≤ 4000 := (rdPlace_same h1).2.2.2.2.1.1
            have hnx := Lib.hid (rdPlaces_more hrd.out h1)
            have hlen : (ps ++ [(xs, l)]).length = ps.length + 1 := by rw [List.length_append]; rfl
            have HL := Lib.hid hlen
            rw [h1, Option.map_some] at hmap
            have HMP := Lib.hid hmap
            clear hmap h1 hlen
            go_wp2_with (fail)
            refine (refPlace_c s (p + 2) _ hs).mono ?_
            rintro e w4 hpd
            rw [HMP.out] at hpd
            obtain ⟨A5, m5, c5, A7, m7, c7, rfl, ho5, ho7, hB4⟩ := hpd
            have hm5 : m5 = xs.length := by
              have h := ho5.1
              rw [iv_len] at h
              have h : xs.length = m5 * 1 := h
              omega
            subst hm5
            have hp4 := HP.out.step hB4
            have hap7 := Lib.hid (HP.out.rs.apart_base ho7 (Nat.le_refl _))
            have HO5 := Lib.hid (own_more ho5 HP.out.size)
            have HO7 := Lib.hid (own_more ho7 HP.out.size)
            have HP4 := Lib.hid hp4
            clear hp4 hB4 HP ho5 ho7
            go_wp2_with (fail)
            go_loopw [13] (fun i wr => ∃ (j c1 : Nat) (A1 : Option Addr), j ≤ xs.length ∧ i = .int .i64 j ∧ wr.ownsRow (b + 1) 3 1 (.slice A5 xs.length c5) xs.length (iv xs) ∧ wr.ownsRow (b + 1) 9 1 (.slice A7 m7 c7) m7 (sv l) ∧
                RSt w wr b n ps (esOf ps ++ (xs.take j).map fun d => ⟨(ps.length : Int), d⟩) A1 (n1 + j) c1 A2 c2 us) (fun i _ => xs.length - (intOf i).toNat)
            case atStart => exact ⟨0, c1, A1, Nat.zero_le _, rfl, HO5.out, HO7.out, by rw [List.take_zero, List.map_nil, List.append_nil]; exact HP4.out⟩
            case round =>
              clear HP4 HO5 HO7
              obtain ⟨j, c1, A1, hj, rfl, ho5, ho7, hp⟩ := hrel
              by_cases hjx : j < xs.length
              · obtain ⟨b1, o1, x, rfl, hx, d0⟩ := (own_reads ho5).int_at hjx
                obtain ⟨e0, e1, e2⟩ := hp.g.cells
                have hlt := hp.size
                have hes := hp.es
                have HP := Lib.hid hp
                have HO5 := Lib.hid ho5
                have HO7 := Lib.hid ho7
                have hap7' := Lib.hid (own_ne HO7.out hes (by decide))
                have hap5' := Lib.hid (own_ne HO5.out hes (by decide))
                have hB5 := below_one wr (.cells #[.int .i64 (ps.length : Int), .int .i64 x] 97)
                have hg5 := hp.g.below hB5 hp.g.lt
                obtain ⟨v0, v1, v2⟩ := hg5.cells
                have f1 : (0 : Int) ≤ (j : Int) := by omega
                have f2 : (j : Int) < (xs.length : Int) := by omega
                have hbl1 : b1 < wr.heap.size := (own_lt HO5.out _ rfl).2
                have d1 : (wr.alloc (.cells #[.int .i64 (ps.length : Int), .int .i64 x] 97)).cell? ⟨b1, o1 + j, none⟩ = some (.int .i64 x) := (hB5.cell (p := ⟨b1, o1 + j, none⟩) hbl1).trans d0
                clear hp ho5 ho7 hB5 hg5
                go_wp2_with (fail)
                go_region_law (first | (refine step_push_drew elEdges rfl (.tmp 63) (.tmp 70) rfl hes rfl _ rfl rfl (ec_one ⟨(ps.length : Int), x⟩) (by unfold maxLen; omega) (by omega) hlt ?_; intro A6 c6 w6 ho6 p6; have hg6 := HP.out.g.below (p6.below hes (Below.refl (b + 1) _) (Nat.le_refl _) hlt) (Nat.lt_succ_self _); obtain ⟨y0, y1, y2⟩ := hg6.cells; have ff1 := hg6.frozen 1))
                all_goals
                  have hp7 := Lib.hid (HP.out.edge (x := ⟨(ps.length : Int), x⟩) ho6 p6)
                  have hs7 := only_setCellS (only_refl w6 (some b)) 1 (.slice A6 (n1 + j + 1) c6)
                  have ho8 := Lib.hid (isF_own (p6.keep HO5.out hap5'.out) hs7 (Nat.lt_succ_self _))
                  have ho9 := Lib.hid (isF_own (p6.keep HO7.out hap7'.out) hs7 (Nat.lt_succ_self _))
                  clear hs7 ho6 p6 hg6 y0 y1 y2 ff1 hes e0 e1 e2 v0 v1 v2 d0 d1 f1 f2
                  go_wp2_with (fail)
                  go_roundw
                  case rel =>
                    refine ⟨j + 1, c6, A6, by omega, by go_num, ho8.out, ho9.out, ?_⟩
                    rw [List.take_add_one, hx.out, Option.toList_some, List.map_append, ← List.append_assoc]
                    exact hp7.out
                  case measure => simp [intOf]; omega
              · obtain rfl : j = xs.length := by omega
                rw [List.take_length] at hp
                obtain ⟨e0, e1, e2⟩ := hp.g.cells
                have hlt := hp.size
                have hws := hp.ws
                have HP := Lib.hid hp
                have HO7 := Lib.hid ho7
                clear hp ho5 ho7
                go_wp2_with (at_builtin; refine wpList_push elRows rfl _ _ rfl hws rfl _ rfl rfl (one_slice _ _ _) (by unfold maxLen; omega) (by omega) hlt ?_; intro A8 c8 w8 ho8 p8; have hg8 := HP.out.g.below (p8.below hws (Below.refl (b + 1) _) (Nat.le_refl _) hlt) (Nat.lt_succ_self _); obtain ⟨y0, y1, y2⟩ := hg8.cells; have ff2 := hg8.frozen 2)
                have hp9 := Lib.hid (HP.out.row (x := (xs, l)) ho8 p8 HO7.out hap7.out)
                clear ho8 p8 hg8 y0 y1 y2 ff2 hws e0 e1 e2
                go_roundw
                case rel =>
                  refine ⟨_, _, _, ⟨ps.length + 1, by omega, rfl, n1 + xs.length, c1, c8, p1, rfl, ps ++ [(xs, l)], HL.out, by omega, hnx.out, A1, A8, us ++ [.slice A7 m7 c7], ?_⟩, rfl, rfl, rfl⟩
                  rw [esOf_snoc]
                  exact hp9.out
                case measure => simp [intOf]; omega
        · obtain rfl : ps.length = n := by omega
          have HGG := Lib.hid (rdG_all H0.out hn hrd.out)
          have hsz : Hid (sized (grOf ps)) := fun l hl x hx => by have := (rdG_same HGG.out).2.2.2.2 l hl; have := this.2 x hx; omega
          have hgi : GrIn wr wr.heap.size (grOf ps) A1 n1 A2 ps.length us := grIn_own HP.out.es HP.out.ws HP.out.rs
          have HGI := Lib.hid hgi
          obtain ⟨e0, e1, e2⟩ := HP.out.g.cells
          clear hgi
          go_wp2_with (fail)
          refine (show Calls Try.prog 29 #[.agg #[.int .i64 (ps.length : Int), .slice A1 n1 c1, .slice A2 ps.length c2]] _ _ from refPrint_c (grOf ps) A1 A2 n1 ps.length c1 c2 us _ HGI.out hsz).mono ?_
          rintro e w5 ⟨rfl, hB5⟩
          have hp5 := HP.out.step hB5
          have HP5 := Lib.hid hp5
          have hi5 := Lib.hid (HGI.out.new hB5)
          clear hB5 e0 e1 e2 HGI HP
          obtain ⟨e0, e1, e2⟩ := hp5.g.cells
          obtain ⟨z0, z1, z2⟩ := hp5.z.cells
          have f0 := hp5.z.frozen 0
          have f1 := hp5.z.frozen 1
          have f2 := hp5.z.frozen 2
          have hne : ¬ w.heap.size = b := by have := hp5.lt; omega
          have hne' : ¬ b = w.heap.size := by have := hp5.lt; omega
          clear hp5
          obtain ⟨tt, htt⟩ : ∃ tt, printS (grOf ps) = tt := ⟨_, rfl⟩
          have HT := Lib.hid htt
          rw [htt]
          clear htt
          rcases printE_cases (grOf ps) with he | he
          · have HE := Lib.hid he
            rw [he]
            clear he
            by_cases ht : tt = s
            · have H := Lib.hid (parse_ref_yes HM.out HGG.out ⟨HE.out, HT.out.trans ht⟩)
              have hb : (tt.toList == s.toList) = true := by rw [bytes_beq]; exact decide_eq_true ht
              have hb' : (tt.toList != s.toList) = false := by unfold bne; rw [hb]; rfl
              clear ht
              go_wp2_with (fail)
              refine (show bodyPost _ _ _ Exit.ret _ (putG w5 w.heap.size (ps.length : Int) A1 n1 c1 A2 ps.length c2) from ?_)
              have hgp := putG_grown w5 w.heap.size (ps.length : Int) A1 n1 c1 A2 ps.length c2
              have hlt := HP5.out.lt
              exact rparse_yes (g := grOf ps) rfl rfl rfl (putG_at HP5.out.z (ps.length : Int) A1 n1 c1 A2 ps.length c2) (grIn_own (isF_own HP5.out.es hgp (by omega)) (isF_own HP5.out.ws hgp (by omega)) (HP5.out.rs.only hgp (by omega))) (putG_below HP5.out.bel (Nat.le_refl _) (ps.length : Int) A1 n1 c1 A2 ps.length c2) H.out
            · have H := Lib.hid (parse_ref_no HM.out HGG.out (fun h => ht (HT.out.symm.trans h.2)))
              have hb : (tt.toList == s.toList) = false := by rw [bytes_beq]; exact decide_eq_false ht
              have hb' : (tt.toList != s.toList) = true := by unfold bne; rw [hb]; rfl
              clear ht
              go_wp2_with (fail)
              refine (show bodyPost _ _ _ Exit.ret _ (putG w5 w.heap.size 0 none 0 0 none 0 0) from ?_)
              exact rparse_no rfl rfl rfl (putG_at HP5.out.z 0 none 0 0 none 0 0) (putG_below HP5.out.bel (Nat.le_refl _) 0 none 0 0 none 0 0) H.out
          · have H := Lib.hid (parse_ref_no HM.out HGG.out (fun h => by have := h.1; omega))
            rw [he]
            clear he
            go_wp2_with (fail)
            refine (show bodyPost _ _ _ Exit.ret _ (putG w5 w.heap.size 0 none 0 0 none 0 0) from ?_)
            exact rparse_no rfl rfl rfl (putG_at HP5.out.z 0 none 0 0 none 0 0) (putG_below HP5.out.bel (Nat.le_refl _) 0 none 0 0 none 0 0) H.out

theorem refParse_c (s : ByteArray) (w : World) (hs : s.size ≤ 1000000) : Calls Try.prog 33 #[.string s] w fun e w' => GotG w w' s e := by
  by_cases hm : marked s
  · exact refParse1_c s w hs hm
  · exact refParse0_c s w hs hm
end Go.Proofs.Ytmnjlhifjjainaa
