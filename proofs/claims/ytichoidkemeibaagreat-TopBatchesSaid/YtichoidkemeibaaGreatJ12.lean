/-
  A worker's iterator: its contract.
-/
import Derived.Test.YtichoidkemeibaaGreatJ11
import Derived.Test.YtichoidkemeibaaGreatJ10
import Derived.Sort.QuietTacIn
import Derived.StillTailTactics
namespace Go.Proofs.YtichoidkemeibaaGreat
open Go.RowKit Go.Shelf

/-- A worker. -/
def wkObj (q : QuA) (a : RwA) (M : Option Addr) (nm cm : Nat) : Obj :=
  .cells #[.int .i64 q.kind, .int .i64 q.src, .int .i64 q.dst, .slice q.W q.nw q.cw, .int .i64 q.radius, .int .i64 q.most, .slice a.A1 a.n1 a.c1, .slice a.A2 a.n2 a.c2, .slice a.A3 a.n3 a.c3, .slice a.A4 a.n4 a.c4, .slice M nm cm, .int .i64 0] 93
/-- What the iterator wants kept. -/
structure WkAt (n₀ bw bk bm : Nat) (q : QuA) (a : RwA) (M : Option Addr) (nm cm : Nat) (ms : List Msg) (X : World) : Prop where
  w_ : X.heap[bw]? = some (.cells #[.pointer (some ⟨bk, 0, none⟩)] 90 (0, 0))
  k_ : X.heap[bk]? = some (wkObj q a M nm cm)
  r_ : RwIn X n₀ a
  m_ : X.ownsRow bm 44 4 (.slice M nm cm) nm (mv ms)
  n_ : n₀ ≤ X.heap.size
abbrev WkE := Msg × Option Addr × Nat × Nat
abbrev wkEncs (x : WkE) : Array Value := #[.agg #[.int .i64 x.1.slot, .int .i64 x.1.dir, .int .i64 x.1.v, .int .i64 x.1.d], .slice x.2.1 x.2.2.1 x.2.2.2]
/-- What lies behind what is handed over. -/
def WkSent (n₁ : Nat) (kind radius : Int) (r : Rws) (x : WkE) (W : World) : Prop :=
  x.2.2.1 = (nxM kind radius r x.1).length ∧ W.ownsRow n₁ 44 4 (.slice x.2.1 x.2.2.1 x.2.2.2) x.2.2.1 (mv (nxM kind radius r x.1))
def goodM (n : Nat) (x : Msg) : Prop := (x.dir = 0 ∨ x.dir = 1) ∧ (0 ≤ x.v ∧ x.v < (n : Int)) ∧ (0 ≤ x.d ∧ x.d ≤ 200)
section
variable {n₀ bw bk bm nm cm : Nat} {q : QuA} {a : RwA} {M : Option Addr} {ms : List Msg} {X X' : World}
theorem WkAt.below (h : WkAt n₀ bw bk bm q a M nm cm ms X) (hB : Below X.heap.size X X') : WkAt n₀ bw bk bm q a M nm cm ms X' :=
  ⟨(hB.block _ (Array.getElem?_eq_some_iff.1 h.w_).1).trans h.w_, (hB.block _ (Array.getElem?_eq_some_iff.1 h.k_).1).trans h.k_, h.r_.below (hB.mono h.n_), own_below h.m_ hB, Nat.le_trans h.n_ hB.size⟩
theorem WkAt.kc (h : WkAt n₀ bw bk bm q a M nm cm ms X) : (X.cell? ⟨bk, 0, none⟩ = some (.int .i64 q.kind) ∧ X.cell? ⟨bk, 1, none⟩ = some (.int .i64 q.src) ∧ X.cell? ⟨bk, 2, none⟩ = some (.int .i64 q.dst) ∧ X.cell? ⟨bk, 3, none⟩ = some (.slice q.W q.nw q.cw) ∧ X.cell? ⟨bk, 4, none⟩ = some (.int .i64 q.radius) ∧ X.cell? ⟨bk, 5, none⟩ = some (.int .i64 q.most)) ∧
    (X.cell? ⟨bk, 6, none⟩ = some (.slice a.A1 a.n1 a.c1) ∧ X.cell? ⟨bk, 7, none⟩ = some (.slice a.A2 a.n2 a.c2) ∧ X.cell? ⟨bk, 8, none⟩ = some (.slice a.A3 a.n3 a.c3) ∧ X.cell? ⟨bk, 9, none⟩ = some (.slice a.A4 a.n4 a.c4)) ∧ X.cell? ⟨bk, 10, none⟩ = some (.slice M nm cm) ∧ X.cell? ⟨bk, 11, none⟩ = some (.int .i64 0) := by
  refine ⟨⟨?_, ?_, ?_, ?_, ?_, ?_⟩, ⟨?_, ?_, ?_, ?_⟩, ?_, ?_⟩ <;> · rw [Lib.cell_of_heap h.k_]; rfl
theorem WkAt.wc (h : WkAt n₀ bw bk bm q a M nm cm ms X) : X.cell? ⟨bw, 0, none⟩ = some (.pointer (some ⟨bk, 0, none⟩)) := by rw [Lib.cell_of_heap h.w_]; rfl
end

theorem work_c (bk : Nat) (w : World) :
    Calls Tryz.prog 50 #[.pointer (some ⟨bk, 0, none⟩)] w fun e w' => e = .returned (.func (.func 89) #[] #[.pointer (some ⟨w.heap.size, 0, none⟩)]) ∧ w' = w.alloc (.cells #[.pointer (some ⟨bk, 0, none⟩)] 90) := by
  go_enter Tryz.func50, Tryz.ntmps50
  go_wp2
  go_ret
  exact ⟨rfl, rfl⟩

set_option maxRecDepth 100000 in
set_option maxHeartbeats 4000000 in
theorem work_gives (n : Nat) (hn : 1 ≤ n) (n₀ n₁ bw bk bm : Nat) (q : QuA) (a : RwA) (M : Option Addr) (nm cm : Nat) (ms : List Msg) (w : World) (hc : chkR a.r) (hms : ∀ m ∈ ms, goodM a.r.n m) (hw : WkAt n₀ bw bk bm q a M nm cm ms w) (hn1 : n₁ ≤ n₀) :
    GivesM Fence.wide n Tryz.prog 89 #[.pointer (some ⟨bw, 0, none⟩)] wkEncs (WkSent n₁ q.kind q.radius a.r) (WkAt n₀ bw bk bm q a M nm cm ms) (fun xs => xs.map Prod.fst = ms) w := by
  intro l J W hW hJb hJN hY h0
  have hml := Lib.hid (own_reads hw.m_).mail_len
  have HC := Lib.hid hc
  have HMS := Lib.hid hms
  have hN := hJN _ _ h0
  have hcap : nm ≤ 9223372036854775807 := by have h := own_cap hw.m_; unfold maxLen at h; omega
  have c0 := hN.wc
  have c1 := hN.kc.2.2.1
  have HJB := Lib.hid hJb
  have HJN := Lib.hid hJN
  clear hN hw hc hms hJb hJN hW
  refine callsIn_of_wp Tryz.func89 rfl trivial ?_ rfl
  simp only [Tryz.ntmps89, List.size_toArray, List.length_cons, List.length_nil, Nat.reduceAdd, Nat.reduceSub, Array.replicate_succ, Array.replicate_zero, List.push_toArray, List.append_toArray, List.nil_append, List.cons_append]
  gi_wp2_with (fail)
  clear c0 c1
  gi_loopw [13] (fun i wr => ∃ (j : Nat) (pre : List WkE), j ≤ nm ∧ i = .int .i64 j ∧ Hid (pre.map Prod.fst = ms.take j) ∧ J pre wr) (fun i _ => nm - (intOf i).toNat)
  case atStart => exact ⟨0, [], Nat.zero_le _, rfl, rfl, h0⟩
  case round =>
    clear h0
    obtain ⟨j, pre, hj, rfl, hp, hJ⟩ := hrel
    have hs1 : n₁ ≤ wr.heap.size := Nat.le_trans hn1 (HJN.out _ _ hJ).n_
    by_cases hlt : j < nm
    · have hN := HJN.out _ _ hJ
      obtain ⟨b, o, x, rfl, hx, d0, d1, d2, d3⟩ := (own_reads hN.m_).mail_at hlt
      have HX := Lib.hid hx.out
      have f1 : (0 : Int) ≤ (j : Int) := by omega
      have f2 : (j : Int) < (nm : Int) := by omega
      have HBW := Lib.hid (below_two wr (.cells #[.int .i64 x.slot, .int .i64 x.dir, .int .i64 x.v, .int .i64 x.d] 44) (.cells #[.int .i64 x.slot, .int .i64 x.dir, .int .i64 x.v, .int .i64 x.d] 43))
      have HN := Lib.hid hN
      have HJ := Lib.hid hJ
      clear hN hx hJ
      gi_wp2_with (fail)
      obtain ⟨h1, h2⟩ : ((wr.alloc (.cells #[.int .i64 x.slot, .int .i64 x.dir, .int .i64 x.v, .int .i64 x.d] 44)).alloc (.cells #[.int .i64 x.slot, .int .i64 x.dir, .int .i64 x.v, .int .i64 x.d] 43)).heap[wr.heap.size + 1]? = some (stBox x) ∧
          wr.heap.size + 1 < ((wr.alloc (.cells #[.int .i64 x.slot, .int .i64 x.dir, .int .i64 x.v, .int .i64 x.d] 44)).alloc (.cells #[.int .i64 x.slot, .int .i64 x.dir, .int .i64 x.v, .int .i64 x.d] 43)).heap.size := by
        refine ⟨?_, by simp⟩
        have := (wr.alloc (.cells #[.int .i64 x.slot, .int .i64 x.dir, .int .i64 x.v, .int .i64 x.d] 44)).alloc_heap_new (stBox x)
        rw [World.size_alloc] at this
        exact this
      generalize (wr.alloc (.cells #[.int .i64 x.slot, .int .i64 x.dir, .int .i64 x.v, .int .i64 x.d] 44)).alloc (.cells #[.int .i64 x.slot, .int .i64 x.dir, .int .i64 x.v, .int .i64 x.d] 43) = wx at *
      clear d0 d1 d2 d3 f1 f2
      have HND : Hid (WkAt n₀ bw bk bm q a (some ⟨b, o, none⟩) nm cm ms wx.drew) := HN.out.below HBW.out.drew
      have HBD : Hid (Below wr.heap.size wr wx.drew) := HBW.out.drew
      have h1d : wx.drew.heap[wr.heap.size + 1]? = some (stBox x) := h1
      have HNW : Hid (WkAt n₀ bw bk bm q a (some ⟨b, o, none⟩) nm cm ms wx) := HN.out.below HBW.out
      have c0 := HNW.out.wc
      obtain ⟨⟨k0, k1, k2, k3, k4, k5⟩, ⟨k6, k7, k8, k9⟩, -, -⟩ := HNW.out.kc
      obtain ⟨x0, x1, x2, x3⟩ : wx.cell? ⟨wr.heap.size + 1, 0, none⟩ = some (.int .i64 x.slot) ∧ wx.cell? ⟨wr.heap.size + 1, 1, none⟩ = some (.int .i64 x.dir) ∧ wx.cell? ⟨wr.heap.size + 1, 2, none⟩ = some (.int .i64 x.v) ∧ wx.cell? ⟨wr.heap.size + 1, 3, none⟩ = some (.int .i64 x.d) := by
        refine ⟨?_, ?_, ?_, ?_⟩ <;> · rw [Lib.cell_of_heap h1]; rfl
      have hgm := HMS.out x (List.mem_of_getElem? HX.out)
      have HNX : Hid (Calls Tryz.prog 90 #[quVal q, rwVal a, mval x] wx.drew fun e w' => ∃ A' k c', e = .returned (.tuple #[.slice A' k c', .int .i64 0]) ∧ k = (nxM q.kind q.radius a.r x).length ∧ w'.ownsRow wx.drew.heap.size 44 4 (.slice A' k c') k (mv (nxM q.kind q.radius a.r x)) ∧ Below wx.drew.heap.size wx.drew w') :=
        nextP_c q a x wx.drew (HND.out.r_.more HND.out.n_) HC.out hgm.1 hgm.2.1 hgm.2.2
      have H1D := Lib.hid h1d
      have H2D : Hid (wr.heap.size + 1 < wx.drew.heap.size) := h2
      clear hgm h1 h2 h1d
      refine wpIn_wide.2 ?_
      obtain ⟨L, hL⟩ : ∃ L, L = (nxM q.kind q.radius a.r x).length := ⟨_, rfl⟩
      have HNL : Hid (Calls Tryz.prog 90 #[quVal q, rwVal a, mval x] wx.drew fun e w' => ∃ A' c', e = .returned (.tuple #[.slice A' L c', .int .i64 0]) ∧ w'.ownsRow wx.drew.heap.size 44 4 (.slice A' L c') L (mv (nxM q.kind q.radius a.r x)) ∧ Below wx.drew.heap.size wx.drew w') :=
        Calls.mono HNX.out fun e w' ⟨A', k', c', h1, h2, h3, h4⟩ => by
          rw [← hL] at h2
          subst h2
          exact ⟨A', c', h1, h3, h4⟩
      have HL := Lib.hid hL
      clear hL
      refine wp_mono (Q := fun e a' w2 => match e with
        | .normal => ∃ A' c', a' = { tmps := #[.func (.yield l) #[] #[], .pointer (some ⟨bw, 0, none⟩), undef, undef, .pointer (some ⟨wr.heap.size, 0, none⟩), .pointer (some ⟨wr.heap.size + 1, 0, none⟩), .slice A' L c', .int .i64 0,
            .pointer (some ⟨bk, 0, none⟩), .pointer (some ⟨bk, 0, none⟩), .pointer (some ⟨bk, 10, none⟩), .slice (some ⟨b, o, none⟩) nm cm, .int .i64 nm, .int .i64 j, .bool true, .pointer (some ⟨b, o + j * 4, none⟩),
            .agg #[.int .i64 x.slot, .int .i64 x.dir, .int .i64 x.v, .int .i64 x.d], .pointer (some ⟨wr.heap.size, 0, none⟩), .agg #[.int .i64 x.slot, .int .i64 x.dir, .int .i64 x.v], .pointer (some ⟨wr.heap.size, 3, none⟩), .int .i64 x.d,
            .agg #[.int .i64 x.slot, .int .i64 x.dir, .int .i64 x.v, .int .i64 x.d], .tuple #[.slice A' L c', .int .i64 0], .pointer (some ⟨bk, 0, none⟩), .pointer (some ⟨bk, 0, none⟩), .pointer (some ⟨bk, 0, none⟩),
            .agg #[.int .i64 q.kind, .int .i64 q.src, .int .i64 q.dst, .slice q.W q.nw q.cw, .int .i64 q.radius, .int .i64 q.most], .pointer (some ⟨bk, 0, none⟩), .pointer (some ⟨bk, 0, none⟩), .pointer (some ⟨bk, 6, none⟩),
            .agg #[.slice a.A1 a.n1 a.c1, .slice a.A2 a.n2 a.c2, .slice a.A3 a.n3 a.c3, .slice a.A4 a.n4 a.c4], .agg #[.int .i64 x.slot, .int .i64 x.dir, .int .i64 x.v, .int .i64 x.d], .tuple #[.slice A' L c', .int .i64 0], .slice A' L c', .int .i64 0,
            u35, u36, u37, u38, u39, u40, u41, u42, u43, u44, u45], defers := [] } ∧ w2.ownsRow wx.drew.heap.size 44 4 (.slice A' L c') L (mv (nxM q.kind q.radius a.r x)) ∧ Below wx.drew.heap.size wx.drew w2
        | _ => False) ?_ ?_
      · go_region_law (go_simp; go_at_call 90; refine Calls.mono HNL.out ?_; rintro e w2 ⟨A', c', rfl, ho', hB'⟩)
        all_goals exact ⟨A', c', rfl, ho', hB'⟩
      rintro (_ | _ | _ | _ | _ | _) a' w2 hq
      case normal =>
        obtain ⟨A', c', rfl, ho', hB'⟩ := hq
        clear c0 k0 k1 k2 k3 k4 k5 k6 k7 k8 k9 x0 x1 x2 x3
        have HB2 := Lib.hid (HBD.out.trans (hB'.mono HBD.out.size))
        have HJ2 := Lib.hid (HJB.out pre wr w2 HJ.out HB2.out)
        have HAT : Hid (WkSent n₁ q.kind q.radius a.r (x, A', L, c') w2) := ⟨HL.out, own_more ho' (Nat.le_trans hs1 HBD.out.size)⟩
        have h1x : w2.heap[wr.heap.size + 1]? = some (stBox x) := (hB'.block _ H2D.out).trans H1D.out
        have hex : ∃ xs : List WkE, (pre ++ (x, A', L, c') :: xs).map Prod.fst = ms := by
          refine ⟨(ms.drop (j + 1)).map fun m => (m, none, 0, 0), ?_⟩
          rw [List.map_append, List.map_cons, hp.out, List.map_map]
          have e1 : (List.map (Prod.fst ∘ fun m : Msg => ((m, none, 0, 0) : WkE)) (ms.drop (j + 1))) = ms.drop (j + 1) := by
            rw [show (Prod.fst ∘ fun m : Msg => ((m, none, 0, 0) : WkE)) = id from rfl, List.map_id]
          rw [e1]
          obtain ⟨h1, h2⟩ := List.getElem?_eq_some_iff.1 HX.out
          rw [← h2, ← List.drop_eq_getElem_cons h1, List.take_append_drop]
        obtain ⟨f1, t1, a1, b1, hy, hR⟩ := hY pre (x, A', L, c') w2 HJ2.out HAT.out hex
        have hpn : Hid ((pre ++ [((x, A', L, c') : WkE)]).map Prod.fst = ms.take (j + 1)) := by
          show _ = _
          rw [List.map_append, hp.out, List.take_add_one, HX.out]
          rfl
        dsimp only [wkEncs] at hy
        obtain ⟨x0, x1, x2, x3⟩ : w2.cell? ⟨wr.heap.size + 1, 0, none⟩ = some (.int .i64 x.slot) ∧ w2.cell? ⟨wr.heap.size + 1, 1, none⟩ = some (.int .i64 x.dir) ∧ w2.cell? ⟨wr.heap.size + 1, 2, none⟩ = some (.int .i64 x.v) ∧ w2.cell? ⟨wr.heap.size + 1, 3, none⟩ = some (.int .i64 x.d) := by
          refine ⟨?_, ?_, ?_, ?_⟩ <;> · rw [Lib.cell_of_heap h1x]; rfl
        clear hex hB' ho' h1x
        dsimp only
        gi_wp2_with (fail)
        refine hR.mono ?_
        rintro e w3 ⟨rfl, hJ3⟩
        clear x0 x1 x2 x3
        gi_wp2_with (fail)
        go_roundw
        case rel => exact ⟨j + 1, _, by omega, by go_num, hpn, hJ3⟩
        case measure => simp [intOf]; omega
      all_goals exact hq.elim
    · obtain rfl : j = nm := by omega
      have hend : Hid (pre.map Prod.fst = ms) := by show _ = _; rw [hp.out, List.take_of_length_le (by rw [hml.out]; exact Nat.le_refl _)]
      gi_wp2_with (fail)
      go_end0
      exact ⟨⟨_, rfl⟩, pre, hend.out, hJ⟩
end Go.Proofs.YtichoidkemeibaaGreat
