/-
  The program parses an image: the walk.
-/
import Derived.Test.YtmnjlhifjjainaaGreatImgGet
namespace Go.Proofs.YtmnjlhifjjainaaGreat
open Go.RowKit

set_option maxRecDepth 100000 in
set_option maxHeartbeats 1000000 in
theorem parse0_c (s : ByteArray) (w : World) (hs : s.size ≤ 1000000) (hm : ¬ marked s) :
    Calls Tryz.prog 7 #[.string s] w fun e w' => GotG w w' s e := by
  have hmf : ∀ (fn : Fn) (first cap : Array Value) (w : World), (Instr.makeFunc fn first cap).run Tryz.prog w = .ok (.func fn first cap) w := fun _ _ _ _ => rfl
  have hg2 := (GAt.new w 0 none 0 0 none 0 0).below (below_one _ (.cells #[.int .i64 0] 27)) (GAt.new w 0 none 0 0 none 0 0).lt
  have he2 : EAt ((w.alloc (.cells #[.int .i64 0, .slice none 0 0, .slice none 0 0] 25)).alloc (.cells #[.int .i64 0] 27)) (w.heap.size + 1) 0 := by
    have := EAt.new (w.alloc (.cells #[.int .i64 0, .slice none 0 0, .slice none 0 0] 25)) 0
    rw [World.size_alloc] at this
    exact this
  have hB2 : Below w.heap.size w ((w.alloc (.cells #[.int .i64 0, .slice none 0 0, .slice none 0 0] 25)).alloc (.cells #[.int .i64 0] 27)) := ((Below.refl _ _).alloc (Nat.le_refl _) _).alloc (by simp) _
  have HG := Lib.hid hg2
  have HE := Lib.hid he2
  have HB := Lib.hid hB2
  have HM := Lib.hid hm
  clear hg2 he2 hB2 hm
  go_enter_defers Tryz.func7, Tryz.ntmps7
  go_wp2_with (fail)
  refine (cut_c s _ hs).mono ?_
  rintro e w1 ⟨rfl, rfl⟩
  rw [decide_eq_false HM.out]
  go_wp2_with (fail)
  exact parse_thrown rfl rfl rfl HG.out HE.out HB.out (parse_unmarked HM.out)

set_option maxRecDepth 100000 in
set_option maxHeartbeats 4000000 in
theorem parse1_c (s : ByteArray) (w : World) (hs : s.size ≤ 1000000) (hm : marked s) :
    Calls Tryz.prog 7 #[.string s] w fun e w' => GotG w w' s e := by
  have hmf : ∀ (fn : Fn) (first cap : Array Value) (w : World), (Instr.makeFunc fn first cap).run Tryz.prog w = .ok (.func fn first cap) w := fun _ _ _ _ => rfl
  have hts : (rest s).size ≤ 1000000 := by rw [rest_size hm]; omega
  have hcut : cutS s = rest s := by unfold cutS; rw [if_pos hm]
  have hst : PSt w (((w.alloc (.cells #[.int .i64 0, .slice none 0 0, .slice none 0 0] 25)).alloc (.cells #[.int .i64 0] 27)).alloc (.cells #[.string (rest s), .int .i64 0] 68)) (rest s) 0 0 [] [] none 0 0 none 0 [] := by
    refine ⟨?_, ?_, ?_, own_nil, own_nil, rowsOwn_nil _ _ _ _, (((Below.refl _ _).alloc (Nat.le_refl _) _).alloc (by simp) _).alloc (by simp; omega) _⟩
    · exact ((GAt.new w 0 none 0 0 none 0 0).below (below_one _ (.cells #[.int .i64 0] 27)) (GAt.new w 0 none 0 0 none 0 0).lt).below (below_one _ _) (by simp; omega)
    · have h := EAt.new (w.alloc (.cells #[.int .i64 0, .slice none 0 0, .slice none 0 0] 25)) 0
      rw [World.size_alloc] at h
      exact h.below (below_one _ _) (by simp)
    · have h : RiAt (((w.alloc (.cells #[.int .i64 0, .slice none 0 0, .slice none 0 0] 25)).alloc (.cells #[.int .i64 0] 27)).alloc (.cells #[.string (rest s), .int .i64 0] 68)) ((w.alloc (.cells #[.int .i64 0, .slice none 0 0, .slice none 0 0] 25)).alloc (.cells #[.int .i64 0] 27)).heap.size (rest s) 0 := Array.getElem?_push_size
      rw [World.size_alloc, World.size_alloc] at h
      exact h
  have HP := Lib.hid hst
  have HM := Lib.hid hm
  clear hst hm
  rcases h0 : rdAt (rest s) ((0 : Nat) : Int) with _ | ⟨n, q⟩
  · have H := Lib.hid (parse_no HM.out (rdG_none0 h0))
    go_enter_defers Tryz.func7, Tryz.ntmps7
    go_wp2_with (fail)
    refine (cut_c s _ hs).mono ?_
    rintro e w1 ⟨rfl, rfl⟩
    rw [decide_eq_true HM.out, hcut]
    go_wp2_with (fail)
    refine (riNumber_none _ (rest s) ((0 : Nat) : Int) _ HP.out.r hts h0).mono ?_
    rintro e w2 ⟨rfl, hG⟩
    have hg := HP.out.g.only hG (by omega)
    have he := HP.out.e.grown hG (by omega)
    have hB := HP.out.bel.trans (only_below hG (by omega) HP.out.bel.size)
    unfold thrown
    exact parse_thrown rfl rfl rfl hg he hB H.out
  · go_enter_defers Tryz.func7, Tryz.ntmps7
    go_wp2_with (fail)
    refine (cut_c s _ hs).mono ?_
    rintro e w1 ⟨rfl, rfl⟩
    rw [decide_eq_true HM.out, hcut]
    go_wp2_with (fail)
    refine (riNumber_some _ (rest s) ((0 : Nat) : Int) n q _ HP.out.r hts h0).mono ?_
    rintro e w2 ⟨rfl, hr2, hG⟩
    have hp2 := HP.out.read hr2 hG
    have H0 := Lib.hid h0
    clear h0 hr2 hG HP
    obtain ⟨e0, e1, e2⟩ := hp2.g.cells
    have f0 := hp2.g.frozen 0
    have hg3 := hp2.g.set0 n
    have hs3 := only_setCellS (only_refl w2 (some w.heap.size)) 0 (.int .i64 (n : Int))
    have hp3 : PSt w (w2.setCell ⟨w.heap.size, 0, none⟩ (.int .i64 (n : Int))) (rest s) q n [] [] none 0 0 none 0 [] :=
      ⟨hg3, hp2.e.grown hs3 (by omega), hp2.r.keep hs3 (by omega), own_nil, own_nil, rowsOwn_nil _ _ _ _, hp2.bel.setCell (p := ⟨w.heap.size, 0, none⟩) (Nat.le_refl _) _⟩
    have HP3 := Lib.hid hp3
    clear hp2 hg3 hs3 hp3
    by_cases hn : n ≤ 200
    rotate_left
    · have H := Lib.hid (parse_no HM.out (rdG_big H0.out hn))
      go_wp2_with (fail)
      exact parse_thrown rfl rfl rfl HP3.out.g HP3.out.e HP3.out.bel H.out
    · go_wp2_with (fail)
      generalize w2.setCell ⟨w.heap.size, 0, none⟩ (.int .i64 (n : Int)) = w3 at HP3 ⊢
      clear e0 e1 e2 f0
      go_loopw [31] (fun i wr => ∃ (k n1 c1 c2 p : Nat) (ps : List (List Int × List ByteArray)) (A1 A2 : Option Addr) (us : List Value), k ≤ n ∧ i = .int .i64 k ∧ Hid (ps.length = k) ∧ n1 ≤ 4000 * k ∧ Hid (rdPlaces (rest s) k q = some (ps, p)) ∧
          PSt w wr (rest s) p n ps (esOf ps) A1 n1 c1 A2 c2 us) (fun i _ => n - (intOf i).toNat)
      case atStart => exact ⟨0, 0, 0, 0, q, [], none, none, [], Nat.zero_le _, rfl, rfl, Nat.zero_le _, rfl, HP3.out⟩
      case round =>
        clear HP3
        obtain ⟨k, n1, c1, c2, p, ps, A1, A2, us, hk, rfl, hpl, hn1, hrd, hp⟩ := hrel
        have HP := Lib.hid hp
        clear hp
        by_cases hkn : k < n
        · rcases h1 : rdNums (rest s) p with _ | ⟨xs, p1⟩
          · have H := Lib.hid (parse_no HM.out (rdG_stop H0.out hrd.out (by rw [rdPlace_sev, h1]) hkn))
            go_wp2_with (fail)
            refine (riRow_none _ (rest s) p _ HP.out.r hts h1).mono ?_
            rintro e w4 ⟨rfl, hG⟩
            have hg := HP.out.g.only hG (by omega)
            have he := HP.out.e.grown hG (by omega)
            have hB := HP.out.bel.trans (only_below hG (by omega) HP.out.bel.size)
            unfold thrown
            first | exact parse_thrown rfl rfl rfl hg he hB H.out | (go_wp2_with (fail); exact parse_thrown rfl rfl rfl hg he hB H.out)
          · have hxl : xs.length ≤ 4000 := (rdNums_same h1).2.2.2.1.1
            have hpl2 := hpl.out
            subst hpl2
            go_wp2_with (fail)
            refine (riRow_some _ (rest s) p xs p1 _ HP.out.r hts h1).mono ?_
            rintro e w4 ⟨A5, c5, rfl, hr4, ho5, hG4⟩
            have hp4 := HP.out.read hr4 hG4
            have ho5 := own_more ho5 HP.out.lt
            have H1 := Lib.hid h1
            have HP4 := Lib.hid hp4
            have HO5 := Lib.hid ho5
            clear h1 hr4 hG4 hp4 ho5 HP
            go_wp2_with (fail)
            go_loopw [37] (fun i wr => ∃ (j c1 : Nat) (A1 : Option Addr), j ≤ xs.length ∧ i = .int .i64 j ∧ wr.ownsRow (w.heap.size + 1 + 1 + 1) 3 1 (.slice A5 xs.length c5) xs.length (iv xs) ∧
                PSt w wr (rest s) p1 n ps (esOf ps ++ (xs.take j).map fun d => ⟨(ps.length : Int), d⟩) A1 (n1 + j) c1 A2 c2 us) (fun i _ => xs.length - (intOf i).toNat)
            case atStart => exact ⟨0, c1, A1, Nat.zero_le _, rfl, HO5.out, by rw [List.take_zero, List.map_nil, List.append_nil]; exact HP4.out⟩
            case round =>
              clear HP4 HO5
              obtain ⟨j, c1, A1, hj, rfl, ho, hp⟩ := hrel
              by_cases hjx : j < xs.length
              · obtain ⟨b1, o1, x, rfl, hx, d0⟩ := (own_reads ho).int_at hjx
                obtain ⟨e0, e1, e2⟩ := hp.g.cells
                have hlt := hp.lt
                have hes := hp.es
                have HP := Lib.hid hp
                have HO := Lib.hid ho
                clear hp ho
                go_wp2_with (at_builtin; refine wpList_push elEdges rfl _ _ rfl hes rfl _ rfl rfl (ec_one ⟨(ps.length : Int), x⟩) (by unfold maxLen; omega) (by omega) hlt ?_; intro A6 c6 w6 ho6 p6; have hg6 := HP.out.g.below (p6.below hes (Below.refl (w.heap.size + 1 + 1 + 1) _) (Nat.le_refl _) hlt) (by omega); obtain ⟨y0, y1, y2⟩ := hg6.cells; have f1 := hg6.frozen 1)
                have hp7 := Lib.hid (HP.out.edge (x := ⟨(ps.length : Int), x⟩) ho6 p6)
                have ho7 := Lib.hid (isF_own (p6.keep HO.out (own_ne HO.out hes (by decide))) (only_setCellS (only_refl w6 (some w.heap.size)) 1 (.slice A6 (n1 + j + 1) c6)) (by omega))
                clear hes ho6 p6 hg6 y0 y1 y2 f1 HP HO e0 e1 e2 d0
                go_roundw
                case rel =>
                  refine ⟨j + 1, c6, A6, by omega, by go_num, ho7.out, ?_⟩
                  rw [List.take_add_one, hx.out, Option.toList_some, List.map_append, ← List.append_assoc]
                  exact hp7.out
                case measure => simp [intOf]; omega
              · obtain rfl : j = xs.length := by omega
                rw [List.take_length] at hp
                have HP := Lib.hid hp
                clear hp ho
                have hlt := HP.out.lt
                have hg := HP.out.g
                obtain ⟨e0, e1, e2⟩ := (show GAt wr.drew w.heap.size n A1 (n1 + xs.length) c1 A2 ps.length c2 from hg).cells
                clear hg
                rcases h2 : rdAt (rest s) p1 with _ | ⟨m, p2⟩
                · have H := Lib.hid (parse_no HM.out (rdG_stop H0.out hrd.out (by rw [rdPlace_sev, H1.out]; simp only []; rw [h2]) hkn))
                  go_wp2_with (fail)
                  refine wp_region_any (by kernel_rfl) ?_
                  change wpAny _ _ _ _ _ _ _ (World.drew _)
                  refine wpAny_take (i := 0) (v := .pointer (some ⟨w.heap.size, 2, none⟩)) rfl (by kernel_rfl) (by kernel_rfl) (by kernel_rfl) (fun _ _ _ h => put_panic (j := 50) rfl (by decide) (by decide) h) (Or.inl ⟨by rfl, by intro w'; go_simp; try with_reducible rfl⟩) ?_
                  refine wpAny_take (i := 2) (v := .pointer (some ⟨w.heap.size + 1 + 1, 0, none⟩)) rfl (by kernel_rfl) (by kernel_rfl) (by kernel_rfl) (fun _ _ _ h => put_panic (j := 52) rfl (by decide) (by decide) h) (Or.inl ⟨by rfl, by intro w'; go_simp; try with_reducible rfl⟩) ?_
                  refine wpAny_take (i := 3) (v := .pointer (some ⟨w.heap.size + 1 + 1, 0, none⟩)) rfl (by kernel_rfl) (by kernel_rfl) (by kernel_rfl) (fun _ _ _ h => put_panic (j := 53) rfl (by decide) (by decide) h) (Or.inl ⟨by rfl, by intro w'; go_simp; try with_reducible rfl⟩) ?_
                  refine wpAny_ready (rs := [1, 4]) (by kernel_rfl) (by simp) ?_
                  refine AllReady.cons rfl (fun K hK => ?_) (AllReady.cons rfl (fun K hK => ?_) AllReady.nil)
                  · go_simp
                    refine hK _ _ ?_
                    clear hK K
                    refine wpAny_ready (rs := [4]) (by kernel_rfl) (by simp) ?_
                    refine AllReady.cons rfl (fun K hK => ?_) AllReady.nil
                    go_simp
                    go_at_call 24
                    refine (riNumber_none _ (rest s) p1 _ HP.out.drew.r hts h2).mono ?_
                    rintro e w5 ⟨rfl, hG9⟩
                    have hg9 := HP.out.drew.g.only hG9 (by omega)
                    have he9 := HP.out.drew.e.grown hG9 (by omega)
                    have hB9 := HP.out.drew.bel.trans (only_below hG9 (by omega) HP.out.drew.bel.size)
                    unfold thrown
                    first | exact parse_thrown rfl rfl rfl hg9 he9 hB9 H.out | (go_wp2_with (fail); exact parse_thrown rfl rfl rfl hg9 he9 hB9 H.out)
                  · go_simp
                    go_at_call 24
                    refine (riNumber_none _ (rest s) p1 _ HP.out.drew.r hts h2).mono ?_
                    rintro e w5 ⟨rfl, hG9⟩
                    have hg9 := HP.out.drew.g.only hG9 (by omega)
                    have he9 := HP.out.drew.e.grown hG9 (by omega)
                    have hB9 := HP.out.drew.bel.trans (only_below hG9 (by omega) HP.out.drew.bel.size)
                    unfold thrown
                    first | exact parse_thrown rfl rfl rfl hg9 he9 hB9 H.out | (go_wp2_with (fail); exact parse_thrown rfl rfl rfl hg9 he9 hB9 H.out)
                · have H2 := Lib.hid h2
                  rcases h3 : sevO (rest s) m p2 with _ | ⟨l, p3⟩
                  · have H := Lib.hid (parse_no HM.out (rdG_stop H0.out hrd.out (by rw [rdPlace_sev, H1.out]; simp only []; rw [h2]; simp only []; rw [h3]) hkn))
                    go_wp2_with (fail)
                    refine wp_region_any (by kernel_rfl) ?_
                    change wpAny _ _ _ _ _ _ _ (World.drew _)
                    refine wpAny_take (i := 0) (v := .pointer (some ⟨w.heap.size, 2, none⟩)) rfl (by kernel_rfl) (by kernel_rfl) (by kernel_rfl) (fun _ _ _ h => put_panic (j := 50) rfl (by decide) (by decide) h) (Or.inl ⟨by rfl, by intro w'; go_simp; try with_reducible rfl⟩) ?_
                    refine wpAny_take (i := 2) (v := .pointer (some ⟨w.heap.size + 1 + 1, 0, none⟩)) rfl (by kernel_rfl) (by kernel_rfl) (by kernel_rfl) (fun _ _ _ h => put_panic (j := 52) rfl (by decide) (by decide) h) (Or.inl ⟨by rfl, by intro w'; go_simp; try with_reducible rfl⟩) ?_
                    refine wpAny_take (i := 3) (v := .pointer (some ⟨w.heap.size + 1 + 1, 0, none⟩)) rfl (by kernel_rfl) (by kernel_rfl) (by kernel_rfl) (fun _ _ _ h => put_panic (j := 53) rfl (by decide) (by decide) h) (Or.inl ⟨by rfl, by intro w'; go_simp; try with_reducible rfl⟩) ?_
                    refine wpAny_ready (rs := [1, 4]) (by kernel_rfl) (by simp) ?_
                    refine AllReady.cons rfl (fun K hK => ?_) (AllReady.cons rfl (fun K hK => ?_) AllReady.nil)
                    · go_simp
                      refine hK _ _ ?_
                      clear hK K
                      refine wpAny_ready (rs := [4]) (by kernel_rfl) (by simp) ?_
                      refine AllReady.cons rfl (fun K hK => ?_) AllReady.nil
                      go_simp
                      go_at_call 24
                      refine (riNumber_some _ (rest s) p1 m p2 _ HP.out.drew.r hts h2).mono ?_
                      rintro e w5 ⟨rfl, hr5, hG5⟩
                      have hp5 := HP.out.drew.read hr5 hG5
                      obtain ⟨y0, y1, y2⟩ := hp5.g.cells
                      refine hK _ _ ?_
                      clear hK K
                      refine wpAny_ready (rs := [5]) (by kernel_rfl) (by simp) ?_
                      refine AllReady.cons rfl (fun K hK => ?_) AllReady.nil
                      go_simp
                      go_at_call 26
                      refine (several_c _ (rest s) m p2 _ hp5.r hts).mono ?_
                      rintro e w6 hsev
                      rw [h3] at hsev
                      obtain ⟨rfl, hG9⟩ := hsev
                      have hg9 := hp5.g.only hG9 (by omega)
                      have he9 := hp5.e.grown hG9 (by omega)
                      have hB9 := hp5.bel.trans (only_below hG9 (by omega) hp5.bel.size)
                      unfold thrown
                      first | exact parse_thrown rfl rfl rfl hg9 he9 hB9 H.out | (go_wp2_with (fail); exact parse_thrown rfl rfl rfl hg9 he9 hB9 H.out)
                    · skip
                      go_simp
                      go_at_call 24
                      refine (riNumber_some _ (rest s) p1 m p2 _ HP.out.drew.r hts h2).mono ?_
                      rintro e w5 ⟨rfl, hr5, hG5⟩
                      have hp5 := HP.out.drew.read hr5 hG5
                      obtain ⟨y0, y1, y2⟩ := hp5.g.cells
                      refine hK _ _ ?_
                      clear hK K
                      refine wpAny_ready (rs := [1, 5]) (by kernel_rfl) (by simp) ?_
                      refine AllReady.cons rfl (fun K hK => ?_) (AllReady.cons rfl (fun K hK => ?_) AllReady.nil)
                      · go_simp
                        refine hK _ _ ?_
                        clear hK K
                        refine wpAny_ready (rs := [5]) (by kernel_rfl) (by simp) ?_
                        refine AllReady.cons rfl (fun K hK => ?_) AllReady.nil
                        go_simp
                        go_at_call 26
                        refine (several_c _ (rest s) m p2 _ hp5.r hts).mono ?_
                        rintro e w6 hsev
                        rw [h3] at hsev
                        obtain ⟨rfl, hG9⟩ := hsev
                        have hg9 := hp5.g.only hG9 (by omega)
                        have he9 := hp5.e.grown hG9 (by omega)
                        have hB9 := hp5.bel.trans (only_below hG9 (by omega) hp5.bel.size)
                        unfold thrown
                        first | exact parse_thrown rfl rfl rfl hg9 he9 hB9 H.out | (go_wp2_with (fail); exact parse_thrown rfl rfl rfl hg9 he9 hB9 H.out)
                      · skip
                        go_simp
                        go_at_call 26
                        refine (several_c _ (rest s) m p2 _ hp5.r hts).mono ?_
                        rintro e w6 hsev
                        rw [h3] at hsev
                        obtain ⟨rfl, hG9⟩ := hsev
                        have hg9 := hp5.g.only hG9 (by omega)
                        have he9 := hp5.e.grown hG9 (by omega)
                        have hB9 := hp5.bel.trans (only_below hG9 (by omega) hp5.bel.size)
                        unfold thrown
                        first | exact parse_thrown rfl rfl rfl hg9 he9 hB9 H.out | (go_wp2_with (fail); exact parse_thrown rfl rfl rfl hg9 he9 hB9 H.out)
                  · have hpx : Hid (rdPlace (rest s) p = some ((xs, l), p3)) := by show _ = _; rw [rdPlace_sev, H1.out]; simp only []; rw [h2]; simp only []; rw [h3]
                    have hlen : (ps ++ [(xs, l)]).length = ps.length + 1 := by rw [List.length_append]; rfl
                    have HL := Lib.hid hlen
                    clear hlen
                    go_wp2_with (fail)
                    refine wp_region_any (by kernel_rfl) ?_
                    change wpAny _ _ _ _ _ _ _ (World.drew _)
                    refine wpAny_take (i := 0) (v := .pointer (some ⟨w.heap.size, 2, none⟩)) rfl (by kernel_rfl) (by kernel_rfl) (by kernel_rfl) (fun _ _ _ h => put_panic (j := 50) rfl (by decide) (by decide) h) (Or.inl ⟨by rfl, by intro w'; go_simp; try with_reducible rfl⟩) ?_
                    refine wpAny_take (i := 2) (v := .pointer (some ⟨w.heap.size + 1 + 1, 0, none⟩)) rfl (by kernel_rfl) (by kernel_rfl) (by kernel_rfl) (fun _ _ _ h => put_panic (j := 52) rfl (by decide) (by decide) h) (Or.inl ⟨by rfl, by intro w'; go_simp; try with_reducible rfl⟩) ?_
                    refine wpAny_take (i := 3) (v := .pointer (some ⟨w.heap.size + 1 + 1, 0, none⟩)) rfl (by kernel_rfl) (by kernel_rfl) (by kernel_rfl) (fun _ _ _ h => put_panic (j := 53) rfl (by decide) (by decide) h) (Or.inl ⟨by rfl, by intro w'; go_simp; try with_reducible rfl⟩) ?_
                    refine wpAny_ready (rs := [1, 4]) (by kernel_rfl) (by simp) ?_
                    refine AllReady.cons rfl (fun K hK => ?_) (AllReady.cons rfl (fun K hK => ?_) AllReady.nil)
                    · skip
                      go_simp
                      refine hK _ _ ?_
                      clear hK K
                      refine wpAny_ready (rs := [4]) (by kernel_rfl) (by simp) ?_
                      refine AllReady.cons rfl (fun K hK => ?_) AllReady.nil
                      go_simp
                      go_at_call 24
                      refine (riNumber_some _ (rest s) p1 m p2 _ HP.out.drew.r hts h2).mono ?_
                      rintro e w5 ⟨rfl, hr5, hG5⟩
                      have hp5 := HP.out.drew.read hr5 hG5
                      obtain ⟨y0, y1, y2⟩ := hp5.g.cells
                      refine hK _ _ ?_
                      clear hK K
                      refine wpAny_ready (rs := [5]) (by kernel_rfl) (by simp) ?_
                      refine AllReady.cons rfl (fun K hK => ?_) AllReady.nil
                      go_simp
                      go_at_call 26
                      refine (several_c _ (rest s) m p2 _ hp5.r hts).mono ?_
                      rintro e w6 hsev
                      rw [h3] at hsev
                      obtain ⟨A7, c7, rfl, hr6, ho7, hG6⟩ := hsev
                      have hp6 := hp5.read hr6 hG6
                      obtain ⟨z0, z1, z2⟩ := hp6.g.cells
                      have hlt6 := hp6.lt
                      have hg6 := hp6.g.below (below_one w6 (.cells #[.slice A7 l.length c7] 35)) hp6.g.lt
                      obtain ⟨v0, v1, v2⟩ := hg6.cells
                      refine hK _ _ ?_
                      clear hK K
                      refine wpAny_ready (rs := [6]) (by kernel_rfl) (by simp) ?_
                      refine AllReady.cons rfl (fun K hK => ?_) AllReady.nil
                      go_simp
                      refine hK _ _ ?_
                      clear hK K
                      refine wpAny_ready (rs := [7]) (by kernel_rfl) (by simp) ?_
                      refine AllReady.cons rfl (fun K hK => ?_) AllReady.nil
                      refine step_push elRows rfl (.tmp 51) (.tmp 56) rfl hp6.ws rfl _ rfl rfl (one_slice _ _ _) (by unfold maxLen; omega) (by omega) hlt6 ?_
                      intro A8 c8 w8 ho8 p8
                      have hg8 := hp6.g.below (p8.below hp6.ws (Below.refl (w.heap.size + 1 + 1 + 1) _) (Nat.le_refl _) hlt6) (by omega)
                      obtain ⟨t0, t1, t2⟩ := hg8.cells
                      have ft2 := hg8.frozen 2
                      refine hK _ _ ?_
                      clear hK K
                      refine wpAny_ready (rs := [8]) (by kernel_rfl) (by simp) ?_
                      refine AllReady.cons rfl (fun K hK => ?_) AllReady.nil
                      go_simp
                      refine hK _ _ ?_
                      clear hK K
                      refine wpAny_ready (rs := [9]) (by kernel_rfl) (by simp) ?_
                      refine AllReady.cons rfl (fun K hK => ?_) AllReady.nil
                      go_simp
                      refine hK _ _ ?_
                      clear hK K
                      refine wpAny_done (by kernel_rfl) ?_ _
                      have hp9 := Lib.hid (PSt.row (x := (xs, l)) hp6 ho8 p8 (own_more ho7 hp5.lt) (hp5.rs.apart_base ho7 (Nat.le_refl _)))
                      clear t0 t1 t2 ft2 hg8 ho8 p8 v0 v1 v2 hg6 z0 z1 z2 hp6 ho7 hG6 hr6 y0 y1 y2 hp5 hG5 hr5 e0 e1 e2
                      go_wp2_with (fail)
                      go_roundw
                      case rel =>
                        refine ⟨ps.length + 1, n1 + xs.length, c1, c8, p3, ps ++ [(xs, l)], A1, A8, us ++ [.slice A7 l.length c7], by omega, by go_num, HL.out, by omega, rdPlaces_more hrd.out hpx.out, ?_⟩
                        rw [esOf_snoc]
                        exact hp9.out
                      case measure => simp [intOf]; omega
                    · skip
                      go_simp
                      go_at_call 24
                      refine (riNumber_some _ (rest s) p1 m p2 _ HP.out.drew.r hts h2).mono ?_
                      rintro e w5 ⟨rfl, hr5, hG5⟩
                      have hp5 := HP.out.drew.read hr5 hG5
                      obtain ⟨y0, y1, y2⟩ := hp5.g.cells
                      refine hK _ _ ?_
                      clear hK K
                      refine wpAny_ready (rs := [1, 5]) (by kernel_rfl) (by simp) ?_
                      refine AllReady.cons rfl (fun K hK => ?_) (AllReady.cons rfl (fun K hK => ?_) AllReady.nil)
                      · skip
                        go_simp
                        refine hK _ _ ?_
                        clear hK K
                        refine wpAny_ready (rs := [5]) (by kernel_rfl) (by simp) ?_
                        refine AllReady.cons rfl (fun K hK => ?_) AllReady.nil
                        go_simp
                        go_at_call 26
                        refine (several_c _ (rest s) m p2 _ hp5.r hts).mono ?_
                        rintro e w6 hsev
                        rw [h3] at hsev
                        obtain ⟨A7, c7, rfl, hr6, ho7, hG6⟩ := hsev
                        have hp6 := hp5.read hr6 hG6
                        obtain ⟨z0, z1, z2⟩ := hp6.g.cells
                        have hlt6 := hp6.lt
                        have hg6 := hp6.g.below (below_one w6 (.cells #[.slice A7 l.length c7] 35)) hp6.g.lt
                        obtain ⟨v0, v1, v2⟩ := hg6.cells
                        refine hK _ _ ?_
                        clear hK K
                        refine wpAny_ready (rs := [6]) (by kernel_rfl) (by simp) ?_
                        refine AllReady.cons rfl (fun K hK => ?_) AllReady.nil
                        go_simp
                        refine hK _ _ ?_
                        clear hK K
                        refine wpAny_ready (rs := [7]) (by kernel_rfl) (by simp) ?_
                        refine AllReady.cons rfl (fun K hK => ?_) AllReady.nil
                        refine step_push elRows rfl (.tmp 51) (.tmp 56) rfl hp6.ws rfl _ rfl rfl (one_slice _ _ _) (by unfold maxLen; omega) (by omega) hlt6 ?_
                        intro A8 c8 w8 ho8 p8
                        have hg8 := hp6.g.below (p8.below hp6.ws (Below.refl (w.heap.size + 1 + 1 + 1) _) (Nat.le_refl _) hlt6) (by omega)
                        obtain ⟨t0, t1, t2⟩ := hg8.cells
                        have ft2 := hg8.frozen 2
                        refine hK _ _ ?_
                        clear hK K
                        refine wpAny_ready (rs := [8]) (by kernel_rfl) (by simp) ?_
                        refine AllReady.cons rfl (fun K hK => ?_) AllReady.nil
                        go_simp
                        refine hK _ _ ?_
                        clear hK K
                        refine wpAny_ready (rs := [9]) (by kernel_rfl) (by simp) ?_
                        refine AllReady.cons rfl (fun K hK => ?_) AllReady.nil
                        go_simp
                        refine hK _ _ ?_
                        clear hK K
                        refine wpAny_done (by kernel_rfl) ?_ _
                        have hp9 := Lib.hid (PSt.row (x := (xs, l)) hp6 ho8 p8 (own_more ho7 hp5.lt) (hp5.rs.apart_base ho7 (Nat.le_refl _)))
                        clear t0 t1 t2 ft2 hg8 ho8 p8 v0 v1 v2 hg6 z0 z1 z2 hp6 ho7 hG6 hr6 y0 y1 y2 hp5 hG5 hr5 e0 e1 e2
                        go_wp2_with (fail)
                        go_roundw
                        case rel =>
                          refine ⟨ps.length + 1, n1 + xs.length, c1, c8, p3, ps ++ [(xs, l)], A1, A8, us ++ [.slice A7 l.length c7], by omega, by go_num, HL.out, by omega, rdPlaces_more hrd.out hpx.out, ?_⟩
                          rw [esOf_snoc]
                          exact hp9.out
                        case measure => simp [intOf]; omega
                      · skip
                        go_simp
                        go_at_call 26
                        refine (several_c _ (rest s) m p2 _ hp5.r hts).mono ?_
                        rintro e w6 hsev
                        rw [h3] at hsev
                        obtain ⟨A7, c7, rfl, hr6, ho7, hG6⟩ := hsev
                        have hp6 := hp5.read hr6 hG6
                        obtain ⟨z0, z1, z2⟩ := hp6.g.cells
                        have hlt6 := hp6.lt
                        have hg6 := hp6.g.below (below_one w6 (.cells #[.slice A7 l.length c7] 35)) hp6.g.lt
                        obtain ⟨v0, v1, v2⟩ := hg6.cells
                        refine hK _ _ ?_
                        clear hK K
                        refine wpAny_ready (rs := [1, 6]) (by kernel_rfl) (by simp) ?_
                        refine AllReady.cons rfl (fun K hK => ?_) (AllReady.cons rfl (fun K hK => ?_) AllReady.nil)
                        · skip
                          go_simp
                          refine hK _ _ ?_
                          clear hK K
                          refine wpAny_ready (rs := [6]) (by kernel_rfl) (by simp) ?_
                          refine AllReady.cons rfl (fun K hK => ?_) AllReady.nil
                          go_simp
                          refine hK _ _ ?_
                          clear hK K
                          refine wpAny_ready (rs := [7]) (by kernel_rfl) (by simp) ?_
                          refine AllReady.cons rfl (fun K hK => ?_) AllReady.nil
                          refine step_push elRows rfl (.tmp 51) (.tmp 56) rfl hp6.ws rfl _ rfl rfl (one_slice _ _ _) (by unfold maxLen; omega) (by omega) hlt6 ?_
                          intro A8 c8 w8 ho8 p8
                          have hg8 := hp6.g.below (p8.below hp6.ws (Below.refl (w.heap.size + 1 + 1 + 1) _) (Nat.le_refl _) hlt6) (by omega)
                          obtain ⟨t0, t1, t2⟩ := hg8.cells
                          have ft2 := hg8.frozen 2
                          refine hK _ _ ?_
                          clear hK K
                          refine wpAny_ready (rs := [8]) (by kernel_rfl) (by simp) ?_
                          refine AllReady.cons rfl (fun K hK => ?_) AllReady.nil
                          go_simp
                          refine hK _ _ ?_
                          clear hK K
                          refine wpAny_ready (rs := [9]) (by kernel_rfl) (by simp) ?_
                          refine AllReady.cons rfl (fun K hK => ?_) AllReady.nil
                          go_simp
                          refine hK _ _ ?_
                          clear hK K
                          refine wpAny_done (by kernel_rfl) ?_ _
                          have hp9 := Lib.hid (PSt.row (x := (xs, l)) hp6 ho8 p8 (own_more ho7 hp5.lt) (hp5.rs.apart_base ho7 (Nat.le_refl _)))
                          clear t0 t1 t2 ft2 hg8 ho8 p8 v0 v1 v2 hg6 z0 z1 z2 hp6 ho7 hG6 hr6 y0 y1 y2 hp5 hG5 hr5 e0 e1 e2
                          go_wp2_with (fail)
                          go_roundw
                          case rel =>
                            refine ⟨ps.length + 1, n1 + xs.length, c1, c8, p3, ps ++ [(xs, l)], A1, A8, us ++ [.slice A7 l.length c7], by omega, by go_num, HL.out, by omega, rdPlaces_more hrd.out hpx.out, ?_⟩
                            rw [esOf_snoc]
                            exact hp9.out
                          case measure => simp [intOf]; omega
                        · skip
                          go_simp
                          refine hK _ _ ?_
                          clear hK K
                          refine wpAny_ready (rs := [1]) (by kernel_rfl) (by simp) ?_
                          refine AllReady.cons rfl (fun K hK => ?_) AllReady.nil
                          go_simp
                          refine hK _ _ ?_
                          clear hK K
                          refine wpAny_ready (rs := [7]) (by kernel_rfl) (by simp) ?_
                          refine AllReady.cons rfl (fun K hK => ?_) AllReady.nil
                          refine step_push elRows rfl (.tmp 51) (.tmp 56) rfl hp6.ws rfl _ rfl rfl (one_slice _ _ _) (by unfold maxLen; omega) (by omega) hlt6 ?_
                          intro A8 c8 w8 ho8 p8
                          have hg8 := hp6.g.below (p8.below hp6.ws (Below.refl (w.heap.size + 1 + 1 + 1) _) (Nat.le_refl _) hlt6) (by omega)
                          obtain ⟨t0, t1, t2⟩ := hg8.cells
                          have ft2 := hg8.frozen 2
                          refine hK _ _ ?_
                          clear hK K
                          refine wpAny_ready (rs := [8]) (by kernel_rfl) (by simp) ?_
                          refine AllReady.cons rfl (fun K hK => ?_) AllReady.nil
                          go_simp
                          refine hK _ _ ?_
                          clear hK K
                          refine wpAny_ready (rs := [9]) (by kernel_rfl) (by simp) ?_
                          refine AllReady.cons rfl (fun K hK => ?_) AllReady.nil
                          go_simp
                          refine hK _ _ ?_
                          clear hK K
                          refine wpAny_done (by kernel_rfl) ?_ _
                          have hp9 := Lib.hid (PSt.row (x := (xs, l)) hp6 ho8 p8 (own_more ho7 hp5.lt) (hp5.rs.apart_base ho7 (Nat.le_refl _)))
                          clear t0 t1 t2 ft2 hg8 ho8 p8 v0 v1 v2 hg6 z0 z1 z2 hp6 ho7 hG6 hr6 y0 y1 y2 hp5 hG5 hr5 e0 e1 e2
                          go_wp2_with (fail)
                          go_roundw
                          case rel =>
                            refine ⟨ps.length + 1, n1 + xs.length, c1, c8, p3, ps ++ [(xs, l)], A1, A8, us ++ [.slice A7 l.length c7], by omega, by go_num, HL.out, by omega, rdPlaces_more hrd.out hpx.out, ?_⟩
                            rw [esOf_snoc]
                            exact hp9.out
                          case measure => simp [intOf]; omega
        · obtain rfl : k = n := by omega
          have hpl2 := hpl.out
          subst hpl2
          have HGG := Lib.hid (rdG_all H0.out hn hrd.out)
          have hsz : Hid (sized (grOf ps)) := fun l hl x hx => by have := (rdG_same HGG.out).2.2.2.2 l hl; have := this.2 x hx; omega
          obtain ⟨e0, e1, e2⟩ := HP.out.g.cells
          obtain ⟨r0, r1⟩ := HP.out.r.cells
          by_cases hps : p = (rest s).size
          rotate_left
          · have H : Hid (parseO s = none) := by show _ = _; rw [parse_end HM.out HGG.out, if_neg (fun h => hps h.1)]
            have hpe : ((p : Int) != ((rest s).size : Int)) = true := by rw [bne_iff_ne]; omega
            clear hps
            go_wp2_with (fail)
            exact parse_thrown rfl rfl rfl HP.out.g HP.out.e HP.out.bel H.out
          · have hpe : ((p : Int) != ((rest s).size : Int)) = false := by rw [bne_eq_false_iff_eq]; omega
            have HPS := Lib.hid hps
            have HGI : Hid (GrIn wr wr.heap.size (grOf ps) A1 n1 A2 ps.length us) := grIn_own HP.out.es HP.out.ws HP.out.rs
            clear hps
            go_wp2_with (fail)
            refine (show Calls Tryz.prog 15 #[.agg #[.int .i64 (ps.length : Int), .slice A1 n1 c1, .slice A2 ps.length c2]] _ _ from is_c (grOf ps) A1 A2 n1 ps.length c1 c2 us _ HGI.out hsz).mono ?_
            rintro e w5 ⟨rfl, hB5⟩
            have hg5 := HP.out.g.below hB5 HP.out.g.lt
            have he5 := HP.out.e.below hB5 HP.out.e.lt
            have hbel5 := Lib.hid (HP.out.bel.trans (hB5.mono HP.out.bel.size))
            have hi5 := Lib.hid (HGI.out.new hB5)
            have HE5 := Lib.hid he5
            have HG5 := Lib.hid hg5
            have ho1 := Lib.hid (own_below HP.out.es hB5)
            have ho2 := Lib.hid (own_below HP.out.ws hB5)
            have ho3 := Lib.hid (HP.out.rs.below hB5)
            clear hB5 e0 e1 e2 r0 r1 HGI
            by_cases hg : isG (grOf ps)
            rotate_left
            · have H : Hid (parseO s = none) := by show _ = _; rw [parse_end HM.out HGG.out, if_neg (fun h => hg h.2)]
              rw [decide_eq_false hg]
              clear hg5 he5
              go_wp2_with (fail)
              exact parse_thrown rfl rfl rfl HG5.out HE5.out hbel5.out H.out
            · have H : Hid (parseO s = some (grOf ps)) := by show _ = _; rw [parse_end HM.out HGG.out, if_pos ⟨HPS.out, hg⟩]
              rw [decide_eq_true hg]
              clear hg
              obtain ⟨d0, d1, d2⟩ := hg5.cells
              have g0 := hg5.frozen 0
              have g1 := hg5.frozen 1
              have g2 := hg5.frozen 2
              have x0 := he5.cell
              have f0 := he5.frozen
              have hne : ¬ w.heap.size = w.heap.size + 1 := by omega
              have hne' : ¬ w.heap.size + 1 = w.heap.size := by omega
              clear hg5 he5
              go_wp2_with (fail)
              refine (show bodyPostD _ _ _ Exit.ret _ ((putG w5 w.heap.size (ps.length : Int) A1 n1 c1 A2 ps.length c2).setCell ⟨w.heap.size + 1, 0, none⟩ (.int .i64 0)) from ?_)
              have h1 := putG_at HG5.out (ps.length : Int) A1 n1 c1 A2 ps.length c2
              have hgp := putG_grown w5 w.heap.size (ps.length : Int) A1 n1 c1 A2 ps.length c2
              have hgs := only_setCellS (only_refl (putG w5 w.heap.size (ps.length : Int) A1 n1 c1 A2 ps.length c2) (some (w.heap.size + 1))) 0 (.int .i64 0)
              have h2 := h1.only hgs (by omega)
              have h3 := (HE5.out.grown hgp (by omega)).set 0
              have hB7 := ((putG_below hbel5.out (Nat.le_refl _) (ps.length : Int) A1 n1 c1 A2 ps.length c2).setCell (p := ⟨w.heap.size + 1, 0, none⟩) (Nat.le_succ _) (.int .i64 0))
              have q1 := isF_own (isF_own ho1.out hgp (by omega)) hgs (by omega)
              have q2 := isF_own (isF_own ho2.out hgp (by omega)) hgs (by omega)
              have q3 := (ho3.out.only hgp (by omega)).only hgs (by omega)
              generalize (putG w5 w.heap.size (ps.length : Int) A1 n1 c1 A2 ps.length c2).setCell ⟨w.heap.size + 1, 0, none⟩ (.int .i64 0) = W9 at h2 h3 hB7 q1 q2 q3 ⊢
              refine leaves_cons (f := 22) (args := #[.pointer (some ⟨w.heap.size, 0, none⟩), .pointer (some ⟨w.heap.size + 1, 0, none⟩)]) (by simp) (by simp [go_sem]) ?_
              refine (catch_idle w.heap.size (w.heap.size + 1) W9).mono ?_
              rintro e u' w'' ⟨rfl, rfl, rfl⟩
              exact parse_got (g := grOf ps) rfl rfl rfl h2 h3 (grIn_own q1 q2 q3) hB7 H.out

theorem parse_c (s : ByteArray) (w : World) (hs : s.size ≤ 1000000) : Calls Tryz.prog 7 #[.string s] w fun e w' => GotG w w' s e := by
  by_cases hm : marked s
  · exact parse1_c s w hs hm
  · exact parse0_c s w hs hm
end Go.Proofs.YtmnjlhifjjainaaGreat
