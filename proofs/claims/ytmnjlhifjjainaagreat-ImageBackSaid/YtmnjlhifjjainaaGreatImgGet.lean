/-
  The program parses an image.
-/
import Derived.Test.YtmnjlhifjjainaaGreatImgCatch
namespace Go.Proofs.YtmnjlhifjjainaaGreat
open Go.RowKit

/-- What Parse has made so far: its boxes, the reader, edges and words. -/
structure PSt (w wr : World) (t : ByteArray) (p : Nat) (N : Int) (ps : List (List Int × List ByteArray)) (es : List Edg) (A1 : Option Addr) (n1 c1 : Nat) (A2 : Option Addr) (c2 : Nat) (us : List Value) : Prop where
  g : GAt wr w.heap.size N A1 n1 c1 A2 ps.length c2
  e : EAt wr (w.heap.size + 1) 0
  r : RiAt wr (w.heap.size + 1 + 1) t p
  es : wr.ownsRow (w.heap.size + 1 + 1 + 1) 38 2 (.slice A1 n1 c1) n1 (ev es)
  ws : wr.ownsRow (w.heap.size + 1 + 1 + 1) 35 1 (.slice A2 ps.length c2) ps.length us
  rs : RowsOwn wr (w.heap.size + 1 + 1 + 1) 9 1 us (wv (ps.map Prod.snd))
  bel : Below w.heap.size w wr
section
variable {w wr w' : World} {t : ByteArray} {p p' : Nat} {N : Int} {ps : List (List Int × List ByteArray)} {es : List Edg} {A1 A2 : Option Addr} {n1 c1 c2 : Nat} {us : List Value}
theorem PSt.lt (h : PSt w wr t p N ps es A1 n1 c1 A2 c2 us) : w.heap.size + 1 + 1 + 1 ≤ wr.heap.size := h.r.lt
/-- The reader goes on. -/
theorem PSt.read (h : PSt w wr t p N ps es A1 n1 c1 A2 c2 us) (hr : RiAt w' (w.heap.size + 1 + 1) t p') (hg : wr.grownBy w' (some (w.heap.size + 1 + 1))) : PSt w w' t p' N ps es A1 n1 c1 A2 c2 us :=
  ⟨h.g.only hg (by omega), h.e.grown hg (by omega), hr, isF_own h.es hg (by omega), isF_own h.ws hg (by omega), h.rs.only hg (by omega),
    h.bel.trans (only_below hg (by omega) h.bel.size)⟩
theorem PSt.drew (h : PSt w wr t p N ps es A1 n1 c1 A2 c2 us) : PSt w wr.drew t p N ps es A1 n1 c1 A2 c2 us := ⟨h.g, h.e, h.r, h.es.drew, h.ws.drew, h.rs.below (Below.refl _ _).drew, h.bel.drew⟩
/-- One edge more. -/
theorem PSt.edge {A' : Option Addr} {c' : Nat} {x : Edg} (h : PSt w wr t p N ps es A1 n1 c1 A2 c2 us) (ho : w'.ownsRow (w.heap.size + 1 + 1 + 1) 38 2 (.slice A' (n1 + 1) c') (n1 + 1) (ev es ++ (ec x).toArray.toList)) (q : Pushed wr w' A1 A') :
    PSt w (w'.setCell ⟨w.heap.size, 1, none⟩ (.slice A' (n1 + 1) c')) t p N ps (es ++ [x]) A' (n1 + 1) c' A2 c2 us := by
  have hb := q.below h.es (Below.refl (w.heap.size + 1 + 1 + 1) wr) (Nat.le_refl _) h.lt
  have hs := only_setCellS (only_refl w' (some w.heap.size)) 1 (.slice A' (n1 + 1) c')
  have hapw : ApartAll us A1 := h.rs.apart_ne h.es (by decide)
  have hape : Apart A2 A1 := own_ne h.ws h.es (by decide)
  refine ⟨(h.g.below hb (by omega)).set1, (h.e.below hb (by omega)).grown hs (by omega), RiAt.keep (show RiAt w' (w.heap.size + 1 + 1) t p from (hb.block _ (by omega)).trans h.r) hs (by omega), ?_, isF_own (q.keep h.ws hape) hs (by omega), (h.rs.kept q hapw).only hs (by omega), (h.bel.trans (hb.mono (by omega))).setCell (p := ⟨w.heap.size, 1, none⟩) (Nat.le_refl _) _⟩
  rw [ev_append, show ev [x] = ec x by simp [ev]]
  exact isF_own ho hs (by omega)
/-- One row of words more. -/
theorem PSt.row {A' A7 : Option Addr} {c' c7 n : Nat} {x : List Int × List ByteArray} (h : PSt w wr t p N ps es A1 n1 c1 A2 c2 us) (ho : w'.ownsRow (w.heap.size + 1 + 1 + 1) 35 1 (.slice A' (ps.length + 1) c') (ps.length + 1) (us ++ [.slice A7 n c7])) (q : Pushed wr w' A2 A')
    (h7 : wr.ownsRow (w.heap.size + 1 + 1 + 1) 9 1 (.slice A7 n c7) n (sv x.2)) (hap : ApartAll us A7) :
    PSt w (w'.setCell ⟨w.heap.size, 2, none⟩ (.slice A' (ps.length + 1) c')) t p N (ps ++ [x]) es A1 n1 c1 A' c' (us ++ [.slice A7 n c7]) := by
  have hb := q.below h.ws (Below.refl (w.heap.size + 1 + 1 + 1) wr) (Nat.le_refl _) h.lt
  have hs := only_setCellS (only_refl w' (some w.heap.size)) 2 (.slice A' (ps.length + 1) c')
  have hapw : ApartAll us A2 := h.rs.apart_ne h.ws (by decide)
  have hape : Apart A1 A2 := own_ne h.es h.ws (by decide)
  have hap7 : Apart A7 A2 := own_ne h7 h.ws (by decide)
  have e : (ps ++ [x]).length = ps.length + 1 := by rw [List.length_append]; rfl
  refine ⟨?_, (h.e.below hb (by omega)).grown hs (by omega), RiAt.keep (show RiAt w' (w.heap.size + 1 + 1) t p from (hb.block _ (by omega)).trans h.r) hs (by omega), isF_own (q.keep h.es hape) hs (by omega), ?_, ?_, (h.bel.trans (hb.mono (by omega))).setCell (p := ⟨w.heap.size, 2, none⟩) (Nat.le_refl _) _⟩
  · rw [e]
    exact (h.g.below hb (by omega)).set2
  · rw [e]
    exact isF_own ho hs (by omega)
  · have e2 : wv ((ps ++ [x]).map Prod.snd) = wv (ps.map Prod.snd) ++ [sv x.2] := by
      rw [List.map_append, wv_append]
      rfl
    rw [e2]
    exact ((h.rs.kept q hapw).snoc (q.keep h7 hap7) hap).only hs (by omega)
end

theorem leaves_tmps {P : Program} {fn : Func} {tm tm' : Array Value} {R : Ending → World → Prop} (hr : results fn tm = results fn tm') : ∀ (ds : List Deferred) (u : FrameMode) (w : World), Leaves P fn tm R ds u w → Leaves P fn tm' R ds u w
  | [], .returning, _, ⟨v, h1, h2⟩ => ⟨v, hr ▸ h1, h2⟩
  | [], .panicking _, _, h => h
  | [], .run, _, h => h
  | _ :: ds, _, _, ⟨h1, fv, cap, f, args, h2, h3, h4⟩ => ⟨h1, fv, cap, f, args, h2, h3, h4.mono (fun e u' w' h => by
      cases e with
      | returned v => exact leaves_tmps hr ds _ _ h
      | panicked chain => exact leaves_tmps hr ds _ _ h
      | outgrown => exact h)⟩
theorem results_put {fn : Func} {T E : TypeId} (hr : fn.results = #[.cell 2 T, .cell 3 E]) {j : Nat} (h2 : j ≠ 2) (h3 : j ≠ 3) (tm : Array Value) (v : Value) : results fn (tm.setIfInBounds j v) = results fn tm := by
  have e2 : (tm.setIfInBounds j v)[2]? = tm[2]? := by rw [Array.getElem?_setIfInBounds, if_neg h2]
  have e3 : (tm.setIfInBounds j v)[3]? = tm[3]? := by rw [Array.getElem?_setIfInBounds, if_neg h3]
  unfold results
  rw [hr]
  simp [e2, e3]
theorem put_panic {P : Program} {fn : Func} {R : Ending → World → Prop} {T E : TypeId} (hr : fn.results = #[.cell 2 T, .cell 3 E]) {j : Nat} (h2 : j ≠ 2) (h3 : j ≠ 3) {v : Value} {c : _} {a : Act} {w : World}
    (h : bodyPostD P fn R (.panic c) (a.put (some j) v) w) : bodyPostD P fn R (.panic c) a w :=
  leaves_tmps (tm := (a.put (some j) v).tmps) (results_put hr h2 h3 a.tmps v) a.defers _ w h
end Go.Proofs.YtmnjlhifjjainaaGreat
