/-
  prog.Done of a keyword query: the walk.
-/
import Derived.Test.YtpdnipabaimofaaGreatJ24
namespace Go.Proofs.YtpdnipabaimofaaGreat
open Go.RowKit Go.Shelf Go.Lib

/-- What Done tells of a keyword query. -/
def DoneWords (k : Nat) (S : List Msg) (nm : Nat) (L : List Pst) (ws : List ByteArray) (w : World) (e : Ending) (w' : World) : Prop :=
  (nm ≠ 0 ∧ e = .returned (.tuple #[.agg #[.bool false, .int .i64 0, .slice none 0 0], .bool false]) ∧ Below w.heap.size w w') ∨
  (nm = 0 ∧ ∃ (A' : Option Addr) (n' c' : Nat) (o : List Hit) (places : List Int), e = .returned (.tuple #[.agg #[.bool (decide (0 < n')), .int .i64 0, .slice A' n' c'], .bool true]) ∧ (∀ x, x ∈ places ↔ inAll L ws x) ∧ FirstK k (hitsL S places) o ∧ w'.ownsRow w.heap.size 43 2 (.slice A' n' c') n' (hitsV o) ∧ Below w.heap.size w w')
set_option maxRecDepth 100000 in
set_option maxHeartbeats 8000000 in
theorem doneWords_c (q : QuA) (A : Option Addr) (n c : Nat) (L : List Pst) (As : Option Addr) (ns cs : Nat) (S : List Msg) (Am : Option Addr) (nm cm : Nat) (_ : List Msg) (ws : List ByteArray) (k : Nat) (w : World) (hk1 : q.kind = 3) (hl : PsIn w w.heap.size A n L) (hn : n ≤ 1000000) (hp : ∀ p ∈ L, p.n ≤ 1000) (hw : Reads w w.heap.size 1 q.W q.nw (sv ws)) (hnw : q.nw ≤ 9223372036854775807) (hcw : q.nw ≤ q.cw) (h0 : q.nw ≠ 0) (hk : q.most = (k : Int)) (hk2 : 1 ≤ k ∧ k ≤ 1000) (hr : Reads w w.heap.size 4 As ns (mv S)) (hns : ns ≤ 100000) :
    Calls Tryz.prog 25 #[quVal q, .slice A n c, .slice As ns cs, .slice Am nm cm] w fun e w' => DoneWords k S nm L ws w e w' := by
  show Calls Tryz.prog 25 #[.agg #[.int .i64 q.kind, .int .i64 q.src, .int .i64 q.dst, .slice q.W q.nw q.cw, .int .i64 q.radius, .int .i64 q.most], .slice A n c, .slice As ns cs, .slice Am nm cm] w _
  have hmf : ∀ (fn : Fn) (first cap : Array Value) (w : World), (Instr.makeFunc fn first cap).run Tryz.prog w = .ok (.func fn first cap) w := fun _ _ _ _ => rfl
  have hx := dnAt_new w q Am nm cm
  obtain ⟨q0, q1, q2, q3, q4, q5⟩ := hx.qc
  obtain ⟨⟨a0, a1, a2⟩, y0, y1, y2⟩ := hx.ac
  have m0 := hx.mc
  have HX := Lib.hid hx
  have HH := Lib.hid (hits_c q A n c L As ns cs S ws k _ ((hl.below hx.bel).more hx.bel.size) hn hp ((hw.below hx.bel).more hx.bel.size) hnw hcw h0 hk hk2 ((hr.below hx.bel).more hx.bel.size) hns)
  have g1 : (q.kind == 1) = false := by simp; omega
  have g2 : (q.kind == 2) = false := by simp; omega
  have g3 : (q.kind == 3) = true := by simpa using hk1
  unfold quBox ansBox at q0 q1 q2 q3 q4 q5 a0 a1 a2 y0 y1 y2 m0
  unfold quVal at HH
  clear hx hl hn hp hw hnw hcw h0 hk hk2 hr hns hk1
  by_cases hm : nm = 0
  · subst hm
    go_enter Tryz.func25, Tryz.ntmps25
    go_wp2_with (fail)
    refine HH.out.mono ?_
    rintro e w1 ⟨A1, n1, c1, o1, ps, rfl, hps, hf, ho, hB⟩
    have HX1 := Lib.hid (HX.out.step hB)
    have HO := Lib.hid (own_more (base := w.heap.size) ho HX.out.bel.size)
    have HPS := Lib.hid hps
    have HF := Lib.hid hf
    have hne : Hid (∀ a, A1 = some a → a.block ≠ w.heap.size + 2) := fun a ha e => by
      have := (own_lt ho a ha).1
      have := HX.out.lt
      omega
    clear hps hf ho hB q0 q1 q2 q3 q4 q5 a0 a1 a2 y0 y1 y2 m0
    obtain ⟨⟨a0, a1, a2⟩, y0, y1, y2⟩ := HX1.out.ac
    generalize hb : decide (0 < n1) = bb
    have HBB := Lib.hid hb
    clear hb
    go_wp2_with (fail)
    refine pair_end (fd := bb) (d := 0) (A := A1) (n := n1) (c := c1) (r := true) (o := w.heap.size + 2) rfl rfl rfl rfl (by go_cell) (by go_cell) (by go_cell) (.inr ⟨rfl, A1, n1, c1, o1, ps, by rw [HBB.out], HPS.out, HF.out, ?_, ?_⟩)
    · exact own_only HO.out (ans_grown w1 (w.heap.size + 2) _ _ _) (fun a ha e => hne.out a ha (by injection e))
    · exact ((HX1.out.bel.setCell (p := ⟨w.heap.size + 2, 0, none⟩) (Nat.le_add_right _ 2) _).setCell (p := ⟨w.heap.size + 2, 1, none⟩) (Nat.le_add_right _ 2) _).setCell (p := ⟨w.heap.size + 2, 2, none⟩) (Nat.le_add_right _ 2) _
  · have hpos : (0 : Int) < (nm : Int) := by omega
    have hpos' : 0 < nm := by omega
    go_enter Tryz.func25, Tryz.ntmps25
    go_wp2_with (fail)
    refine pair_end (fd := false) (d := 0) (A := none) (n := 0) (c := 0) (r := false) (o := w.heap.size + 2) rfl rfl rfl rfl (by go_cell) (by go_cell) (by go_cell) (.inl ⟨hm, rfl, ?_⟩)
    exact HX.out.bel
end Go.Proofs.YtpdnipabaimofaaGreat
