/-
  A slice of messages that came in.
  A message's key as a map's key, a message as a map's element.
  A map of messages, as it is read: plain laws.
  mail.Combine: the walk.
  Graphs: plain laws.
  Rows of rows: slices of the call's own, each in a block of its own.
  Words for memory: edges, texts, rows of texts, graphs.
-/
import Derived.Test.YtichoidkemeibaaGreatProg
import Derived.Test.YtichoidkemeibaaGreatJ04
import Derived.Test.YtichoidkemeibaaGreatJ01
import Derived.Maps.RangeWalk
import Derived.Maps.OwnSet
import Derived.Maps.Views
import Derived.DeepKeys4
import Derived.Lib.Builder
namespace Go.Proofs.YtichoidkemeibaaGreat
open Go.RowKit Go.Deep Go.ChangeShapes Go.WideShapes

section
variable {H : Type} {enc : TypeId × Value → H} {w : World} {base : Nat} {spare : Nat → Bool} {held : Bool}

/-- Each of the four numbers fits. -/
def Msg.fits (m : Msg) : Prop := (Lit.int .i64 m.slot).wf = true ∧ (Lit.int .i64 m.dir).wf = true ∧ (Lit.int .i64 m.v).wf = true ∧ (Lit.int .i64 m.d).wf = true

theorem cells_int : Tryz.prog.cellsOf 3 = 1 := by kernel_rfl
theorem cells_key : Tryz.prog.cellsOf 41 = 3 := by kernel_rfl
theorem cells_mail : Tryz.prog.cellsOf 44 = 4 := by kernel_rfl

set_option maxRecDepth 100000 in
theorem trod_key {n : Nat} {cs : List Value} {y : DataW H × List MemPlace} (h : DataW.trod enc Tryz.prog w base spare held n 41 cs = some y) :
    ∃ a b c : Int, cs = [.int .i64 a, .int .i64 b, .int .i64 c] ∧ (Lit.int .i64 a).wf = true ∧ (Lit.int .i64 b).wf = true ∧ (Lit.int .i64 c).wf = true := by
  obtain ⟨xs, m, _, _, hl, hxl, hf⟩ := DataW.trod_struct Tryz.underlying41 h
  rw [cells_key] at hl
  match cs, hl with
  | [c0, c1, c2], _ =>
    match xs, hxl with
    | [x0, x1, x2], _ =>
      have h0 : DataW.trod enc Tryz.prog w base spare held m 3 (([c0, c1, c2].drop 0).take (Tryz.prog.cellsOf 3)) = some x0 := hf 0 _ rfl
      have h1 : DataW.trod enc Tryz.prog w base spare held m 3 (([c0, c1, c2].drop 1).take (Tryz.prog.cellsOf 3)) = some x1 := hf 1 _ rfl
      have h2 : DataW.trod enc Tryz.prog w base spare held m 3 (([c0, c1, c2].drop 2).take (Tryz.prog.cellsOf 3)) = some x2 := hf 2 _ rfl
      rw [cells_int] at h0 h1 h2
      obtain ⟨a, e0, _, w0⟩ := DataW.trod_int Tryz.underlying3 h0
      obtain ⟨b, e1, _, w1⟩ := DataW.trod_int Tryz.underlying3 h1
      obtain ⟨c, e2, _, w2⟩ := DataW.trod_int Tryz.underlying3 h2
      simp at e0 e1 e2
      subst e0 e1 e2
      exact ⟨a, b, c, rfl, w0, w1, w2⟩

set_option maxRecDepth 100000 in
theorem trod_mail {n : Nat} {cs : List Value} {y : DataW H × List MemPlace} (h : DataW.trod enc Tryz.prog w base spare held n 44 cs = some y) : ∃ m : Msg, cs = mc m ∧ m.fits := by
  obtain ⟨xs, m, _, _, hl, hxl, hf⟩ := DataW.trod_struct Tryz.underlying44 h
  rw [cells_mail] at hl
  match cs, hl with
  | [c0, c1, c2, c3], _ =>
    match xs, hxl with
    | [x0, x1], _ =>
      have h0 : DataW.trod enc Tryz.prog w base spare held m 41 (([c0, c1, c2, c3].drop 0).take (Tryz.prog.cellsOf 41)) = some x0 := hf 0 _ rfl
      have h1 : DataW.trod enc Tryz.prog w base spare held m 3 (([c0, c1, c2, c3].drop 3).take (Tryz.prog.cellsOf 3)) = some x1 := hf 1 _ rfl
      rw [cells_key] at h0
      rw [cells_int] at h1
      obtain ⟨a, b, c, e0, w0, w1, w2⟩ := trod_key h0
      obtain ⟨d, e1, _, w3⟩ := DataW.trod_int Tryz.underlying3 h1
      simp at e0 e1
      obtain ⟨rfl, rfl, rfl⟩ := e0
      subst e1
      exact ⟨⟨a, b, c, d⟩, rfl, w0, w1, w2, w3⟩

theorem open_mails {A : Option Addr} {len cap : Nat} {d : DataW H} {p : List MemPlace} (h : DataW.Trod enc Tryz.prog w base spare held 34 (.slice A len cap) d p) :
    ∃ l : List Msg, l.length = len ∧ Reads w w.heap.size 4 A len (mv l) ∧ len ≤ maxLen ∧ ∀ m ∈ l, m.fits :=
  open_list mc 4 mc_len (by decide) Msg.fits Tryz.underlying34 cells_mail (fun _ _ _ h => trod_mail h) h

theorem open_cap {t e : TypeId} (ht : Tryz.prog.underlying t = some (.slice e)) {A : Option Addr} {len cap : Nat} {d : DataW H} {p : List MemPlace} (h : DataW.Trod enc Tryz.prog w base spare held t (.slice A len cap) d p) : len ≤ cap := by
  obtain ⟨fuel, hfu⟩ := h
  rcases open_slice ht hfu with ⟨hcs, _⟩ | ⟨x, l, c, m, n, D, Pl, hcs, _, hl, hm, hmm, _, hi⟩
  · simp [Value.cells] at hcs
    obtain ⟨rfl, rfl, rfl⟩ := hcs
    exact Nat.le_refl _
  · simp [Value.cells] at hcs
    obtain ⟨rfl, rfl, rfl⟩ := hcs
    exact hl
theorem open_mailsC {A : Option Addr} {len cap : Nat} {d : DataW H} {p : List MemPlace} (h : DataW.Trod enc Tryz.prog w base spare held 34 (.slice A len cap) d p) :
    ∃ l : List Msg, l.length = len ∧ Reads w w.heap.size 4 A len (mv l) ∧ len ≤ maxLen ∧ len ≤ cap ∧ ∀ m ∈ l, m.fits := by
  obtain ⟨l, a, b, c, d⟩ := open_mails h
  exact ⟨l, a, b, c, open_cap Tryz.underlying34 h, d⟩
end
end Go.Proofs.YtichoidkemeibaaGreat

namespace Go.Proofs.YtichoidkemeibaaGreat
open Go.RowKit Go.WideMaps
open Go.Maps (Keyed IsMap)

/-- A key's cells. -/
def kc (m : Msg) : Array Value := #[.int .i64 m.slot, .int .i64 m.dir, .int .i64 m.v]

theorem laidOutM : laidOutB Tryz.prog = true := by kernel_rfl
theorem rowKey : (41 : TypeId) < Tryz.prog.types.size := of_decide_eq_true (by kernel_rfl)
set_option maxRecDepth 100000 in
theorem wideKey : (match Tryz.prog.underlying 41 with | some (.array _ _) | some (.struct _) => true | _ => false) = true := by rw [Tryz.underlying41]
set_option maxRecDepth 100000 in
theorem keyLaw : KeyLaw Tryz.prog 41 := deep_law_laid laidOutM (m := 2) (by omega) rowKey (by kernel_rfl) wideKey
theorem keyed : Keyed Tryz.prog 41 := Keyed.of_law keyLaw
theorem isKeyType : Tryz.prog.keyType 41 = true := by kernel_rfl

set_option maxRecDepth 100000 in
theorem key_formed (m : Msg) : (Value.agg (kc m)).formed Tryz.prog 41 = true := by simp [Value.formed, Tryz.underlying41, cells_key, kc]

set_option maxRecDepth 100000 in
theorem key_reads (m : Msg) (h : m.fits) : ∃ l, keyOf Tryz.prog 41 (.agg (kc m)) = some l := by
  obtain ⟨h1, h2, h3, h4⟩ := h
  obtain ⟨s, hs⟩ : ∃ s, Tryz.prog.types.size = s + 1 := ⟨Tryz.prog.types.size - 1, (Nat.sub_add_cancel (Nat.lt_of_le_of_lt (Nat.zero_le _) rowKey)).symm⟩
  have hl : Tryz.prog.keyLits (Tryz.prog.types.size + 1) 41 (kc m).toList = some [.int .i64 m.slot, .int .i64 m.dir, .int .i64 m.v] := by
    rw [hs]
    simp [Program.keyLits, Tryz.underlying41, Tryz.underlying3, cells_key, cells_int, kc, h1, h2, h3]
  unfold keyOf
  rw [Tryz.underlying41]
  simp only [isKeyType, key_formed, Bool.and_self, if_true]
  rw [show (Value.agg (kc m)).cells.toList = (kc m).toList from rfl, hl]
  exact ⟨_, rfl⟩

theorem lits_int {m : Nat} {c : Value} {x : List Lit} (h : Tryz.prog.keyLits m 3 [c] = some x) : ∃ a, c = .int .i64 a := by
  cases m with
  | zero => simp [Program.keyLits] at h
  | succ m =>
    cases c with
    | int q a =>
      simp [Program.keyLits, Tryz.underlying3] at h
      obtain ⟨⟨rfl, -⟩, -⟩ := h
      exact ⟨a, rfl⟩
    | _ => simp [Program.keyLits, Tryz.underlying3] at h

set_option maxRecDepth 100000 in
theorem key_inv {v : Value} {l : Lit} (h : keyOf Tryz.prog 41 v = some l) : ∃ m : Msg, v = .agg (kc m) := by
  unfold keyOf at h
  rw [Tryz.underlying41] at h
  simp only [] at h
  split at h
  · rename_i hc
    simp only [Bool.and_eq_true] at hc
    obtain ⟨-, hf⟩ := hc
    cases v with
    | agg cs =>
      simp only [Value.formed, Tryz.underlying41, cells_key, beq_iff_eq] at hf
      obtain ⟨cl⟩ := cs
      match cl, hf with
      | [c0, c1, c2], _ =>
        rw [show (Value.agg #[c0, c1, c2]).cells.toList = [c0, c1, c2] from rfl] at h
        obtain ⟨N, hN⟩ : ∃ N, Tryz.prog.types.size = N := ⟨_, rfl⟩
        rw [hN] at h
        clear hN
        cases h3 : Tryz.prog.keyLits (N + 1) 41 [c0, c1, c2] with
        | none => rw [h3] at h; cases h
        | some ls =>
          simp [Program.keyLits, Tryz.underlying41, cells_key, cells_int] at h3
          cases h4 : Tryz.prog.keyLits N 3 [c0] with
          | none => rw [h4] at h3; cases h3
          | some x0 =>
            cases h5 : Tryz.prog.keyLits N 3 [c1] with
            | none => rw [h4, h5] at h3; cases h3
            | some x1 =>
              cases h6 : Tryz.prog.keyLits N 3 [c2] with
              | none => rw [h4, h5, h6] at h3; cases h3
              | some x2 =>
                obtain ⟨a, rfl⟩ := lits_int h4
                obtain ⟨b, rfl⟩ := lits_int h5
                obtain ⟨c, rfl⟩ := lits_int h6
                exact ⟨⟨a, b, c, 0⟩, rfl⟩
    | tuple _ => simp [Value.formed] at hf
    | _ => simp [Value.formed, Tryz.underlying41] at hf
  · cases h

/-- A message, as it is read of a map's element. -/
def mR : Value → Option (DataW Msg × List MemPlace)
  | .agg ⟨[.int .i64 a, .int .i64 b, .int .i64 c, .int .i64 d]⟩ => some (.held ⟨a, b, c, d⟩, [])
  | _ => none

theorem mR_mk (m : Msg) : mR (.agg (mc m).toArray) = some (.held m, []) := rfl
theorem mR_inv {v : Value} {z : DataW Msg × List MemPlace} (h : mR v = some z) : ∃ m, v = .agg (mc m).toArray ∧ z = (.held m, []) := by
  unfold mR at h
  split at h
  · cases h; exact ⟨⟨_, _, _, _⟩, rfl, rfl⟩
  · cases h
end Go.Proofs.YtichoidkemeibaaGreat

namespace Go.Proofs.YtichoidkemeibaaGreat
open Go.RowKit
open Go.Maps (Keyed IsMap)

theorem kc_eq {a b : Msg} : Value.agg (kc a) = .agg (kc b) ↔ kEq a b := by
  unfold kc kEq
  constructor
  · intro h
    injection h with h
    injection h with h
    simp at h
    exact h
  · rintro ⟨h1, h2, h3⟩
    rw [h1, h2, h3]

theorem key_same {a b : Msg} {l l' : Lit} (ha : keyOf Tryz.prog 41 (.agg (kc a)) = some l) (hb : keyOf Tryz.prog 41 (.agg (kc b)) = some l') : l = l' ↔ kEq a b := by
  constructor
  · rintro rfl
    exact kc_eq.1 (keyed.inj ha hb)
  · intro h
    rw [kc_eq.2 h, hb] at ha
    exact (Option.some.inj ha).symm

/-- The map reads as just the messages M. -/
def MapHas (D : DataW Msg) (M : List Msg) : Prop :=
  IsMap D ∧ ∀ (m : Msg) (l : Lit), keyOf Tryz.prog 41 (.agg (kc m)) = some l → (Maps.has D l = true ↔ ∃ y ∈ M, kEq y m) ∧ ∀ y ∈ M, kEq y m → ∀ z, D.atKey l z = .held y

theorem MapHas.nil : MapHas (.map []) [] := ⟨Maps.isMap_empty, fun m l _ => ⟨by simp [Maps.has], fun y hy => by simp at hy⟩⟩

variable {D : DataW Msg} {M M' : List Msg} {x y : Msg} {l : Lit}

theorem MapHas.same (h : MapHas D M) (hs : ∀ y, y ∈ M ↔ y ∈ M') : MapHas D M' :=
  ⟨h.1, fun m l hl => ⟨(h.2 m l hl).1.trans ⟨fun ⟨y, a, b⟩ => ⟨y, (hs y).1 a, b⟩, fun ⟨y, a, b⟩ => ⟨y, (hs y).2 a, b⟩⟩, fun y hy => (h.2 m l hl).2 y ((hs y).2 hy)⟩⟩

theorem rise_one : ∀ {o : List Msg}, o.Pairwise kless → ∀ {a b : Msg}, a ∈ o → b ∈ o → kEq a b → a = b
  | [], _, _, _, ha, _, _ => by simp at ha
  | c :: o, h, a, b, ha, hb, hk => by
    rw [List.pairwise_cons] at h
    rcases List.mem_cons.1 ha with e1 | h1
    · rcases List.mem_cons.1 hb with e2 | h2
      · rw [e1, e2]
      · rw [e1] at hk; exact absurd hk (kless_ne (h.1 b h2))
    · rcases List.mem_cons.1 hb with e2 | h2
      · rw [e2] at hk; exact absurd (kEq_symm hk) (kless_ne (h.1 a h1))
      · exact rise_one h.2 h1 h2 hk

theorem MapHas.put (h : MapHas D M) (hr : M.Pairwise kless) (hl : keyOf Tryz.prog 41 (.agg (kc x)) = some l) (hx : ∀ y ∈ M, kEq y x → x.d ≤ y.d) : MapHas (D.put l (.held x)) (putM M x) := by
  have hin : x ∈ putM M x := by
    rw [putM_mem hr]
    refine .inr ⟨kEq_refl _, ?_⟩
    by_cases hex : ∃ y ∈ M, kEq y x
    · obtain ⟨y, hy, hk⟩ := hex
      have := hx y hy hk
      exact .inl ⟨y, hy, hk, by omega⟩
    · exact .inr ⟨fun y hy hk => hex ⟨y, hy, hk⟩, rfl⟩
  refine ⟨h.1.put _ _, fun m lm hm => ?_⟩
  by_cases hk : kEq x m
  · obtain rfl : l = lm := (key_same hl hm).2 hk
    refine ⟨⟨fun _ => ⟨x, hin, hk⟩, fun _ => Maps.has_put_same h.1 (keyed.key hl) _⟩, fun y hy hym z => ?_⟩
    rw [Maps.atKey_put_same h.1 (keyed.key hl)]
    rw [rise_one (putM_rise hr) hin hy (kEq_trans hk (kEq_symm hym))]
  · have hne : lm ≠ l := fun e => hk ((key_same hl hm).1 e.symm)
    rw [Maps.has_put_other hne, (h.2 m lm hm).1]
    have hmem : ∀ y, kEq y m → (y ∈ putM M x ↔ y ∈ M) := fun y hy => by
      have hyx : ¬ kEq y x := fun e => hk (kEq_trans (kEq_symm e) hy)
      rw [putM_mem hr]
      constructor
      · rintro (h1 | h1)
        · exact h1.1
        · exact absurd h1.1 hyx
      · intro h1; exact .inl ⟨h1, hyx⟩
    refine ⟨⟨fun ⟨y, a, b⟩ => ⟨y, (hmem y b).2 a, b⟩, fun ⟨y, a, b⟩ => ⟨y, (hmem y b).1 a, b⟩⟩, fun y hy hym z => ?_⟩
    rw [Maps.atKey_put_other hne]
    exact (h.2 m lm hm).2 y ((hmem y hym).1 hy) hym z

theorem MapHas.stay (h : MapHas D M) (hr : M.Pairwise kless) (hy : y ∈ M) (hk : kEq y x) (hd : y.d ≤ x.d) : MapHas D (putM M x) := by
  refine h.same fun z => ?_
  rw [putM_mem hr]
  constructor
  · intro hz
    by_cases hzx : kEq z x
    · have : z = y := rise_one hr hz hy (kEq_trans hzx (kEq_symm hk))
      subst this
      exact .inr ⟨hzx, .inl ⟨z, hz, hzx, by omega⟩⟩
    · exact .inl ⟨hz, hzx⟩
  · rintro (h1 | ⟨h1, h2⟩)
    · exact h1.1
    · rcases h2 with ⟨y', hy', hk', hd'⟩ | ⟨h2, -⟩
      · have e1 : y' = y := rise_one hr hy' hy (kEq_trans hk' (kEq_symm hk))
        subst e1
        have : z = y' := kEq_ext (kEq_trans h1 (kEq_symm hk)) (by omega)
        rw [this]; exact hy
      · exact absurd hk (h2 y hy)

/-- What has been met of a range over the map: o; what is left tells the rest. -/
structure Met (M o : List Msg) (left : Lit → Bool) : Prop where
  sub : ∀ y ∈ o, y ∈ M
  nodup : o.Nodup
  rest : ∀ y ∈ M, ∀ l, keyOf Tryz.prog 41 (.agg (kc y)) = some l → (left l = true ↔ y ∉ o)

theorem Met.start (h : MapHas D M) : Met M [] (Maps.has D) :=
  ⟨fun y hy => by simp at hy, List.nodup_nil, fun y hy l hl => by rw [(h.2 y l hl).1]; simp; exact ⟨y, hy, kEq_refl y⟩⟩

theorem Met.step {o : List Msg} {left : Lit → Bool} (h : Met M o left) (hM : MapHas D M) (hr : M.Pairwise kless) {k c : Msg} (hk : keyOf Tryz.prog 41 (.agg (kc k)) = some l) (hl : left l = true)
    (hat : ∀ z, D.atKey l z = .held c) : kEq c k ∧ c ∈ M ∧ Met M (o ++ [c]) (fun z => left z && !z.sameKey l) := by
  have hh : Maps.has D l = true := Maps.has_true_of_atKey hat
  obtain ⟨y, hy, hyk⟩ := ((hM.2 k l hk).1).1 hh
  have e1 := (hM.2 k l hk).2 y hy hyk .nil
  rw [hat] at e1
  injection e1 with e1
  subst e1
  have hc : keyOf Tryz.prog 41 (.agg (kc c)) = some l := by rw [kc_eq.2 hyk]; exact hk
  have hco : c ∉ o := (h.rest c hy l hc).1 hl
  refine ⟨hyk, hy, fun z hz => ?_, ?_, fun z hz lz hlz => ?_⟩
  · rcases List.mem_append.1 hz with hz | hz
    · exact h.sub z hz
    · simp at hz; subst hz; exact hy
  · rw [List.nodup_append]
    refine ⟨h.nodup, by simp, fun a ha b hb e => ?_⟩
    simp at hb
    subst hb
    subst e
    exact hco ha
  · simp only [Bool.and_eq_true, Bool.not_eq_true', List.mem_append, List.mem_cons, List.not_mem_nil, or_false, not_or]
    rw [h.rest z hz lz hlz]
    refine and_congr_right fun _ => ?_
    constructor
    · intro h1 e
      subst e
      have : lz = l := (key_same hlz hc).2 (kEq_refl _)
      subst this
      rw [WideAt.sameKey_self (keyed.key hc)] at h1
      cases h1
    · intro h1
      exact Maps.sameKey_ne fun e => h1 (rise_one hr hz hy ((key_same hlz hc).1 e))

theorem Met.all {o : List Msg} {left : Lit → Bool} (h : Met M o left) (hf : ∀ y ∈ M, y.fits) (hl : ∀ l, left l = false) : ∀ y, y ∈ o ↔ y ∈ M := fun y =>
  ⟨h.sub y, fun hy => by
    obtain ⟨l, hk⟩ := key_reads y (hf y hy)
    rcases Classical.em (y ∈ o) with h1 | h1
    · exact h1
    · have := (h.rest y hy l hk).2 h1
      rw [hl l] at this
      cases this⟩

/-- Sorted, they are the ones that rise. -/
theorem sorted_is {o d : List Msg} (hr : M.Pairwise kless) (ho : ∀ y, y ∈ o ↔ y ∈ M) (hn : o.Nodup) (hp : d.Perm o) (hs : d.Pairwise (fun a b => ¬ kless b a)) : d = M := by
  have hmem : ∀ y, y ∈ d ↔ y ∈ M := fun y => (hp.mem_iff).trans (ho y)
  have hnd : d.Nodup := hp.nodup_iff.2 hn
  refine rise_ext ?_ hr hmem
  have h2 : d.Pairwise (fun a b => ¬ kless b a ∧ a ≠ b) := List.pairwise_and_iff.2 ⟨hs, hnd⟩
  refine h2.imp_of_mem fun {a b} ha hb h => ?_
  rcases kless_tri a b with h1 | h1 | h1
  · exact h1
  · exact absurd (rise_one hr ((hmem a).1 ha) ((hmem b).1 hb) h1) h.2
  · exact absurd h1 h.1
end Go.Proofs.YtichoidkemeibaaGreat

namespace Go.Proofs.YtichoidkemeibaaGreat
open Go.RowKit Go.Shelf
open Go.Maps (Keyed IsMap)

theorem zeroMail (w : World) : (zeroValue 44).run Tryz.prog w = .ok (.agg #[.int .i64 0, .int .i64 0, .int .i64 0, .int .i64 0]) w := by kernel_rfl

theorem nearer_c (x y : Msg) (w : World) : Calls Tryz.prog 102 #[.agg (mc x).toArray, .agg (mc y).toArray] w fun e w' => e = .returned (.bool (decide (x.d < y.d))) ∧ Below w.heap.size w w' := by
  unfold mc
  go_enter Tryz.func102, Tryz.ntmps102
  go_wp2
  go_ret
  exact ⟨rfl, ((Below.refl _ _).alloc (Nat.le_refl _) _).alloc (by simp) _⟩

/-- A box that was laid first is kept. -/
theorem box_kept {w w3 : World} {o1 o2 : Obj} (h : Below ((w.alloc o1).alloc o2).heap.size ((w.alloc o1).alloc o2) w3) : w3.heap[w.heap.size]? = some o1 := by
  have s1 : (w.alloc o1).heap.size = w.heap.size + 1 := World.size_alloc _ _
  have s2 : ((w.alloc o1).alloc o2).heap.size = w.heap.size + 1 + 1 := by rw [World.size_alloc, s1]
  rw [h.block _ (by omega), Below.heap_alloc _ _ _ (by omega)]
  exact Array.getElem?_push_size
theorem reads_box2 (w : World) (o1 : Obj) (m : Msg) : Reads ((w.alloc o1).alloc (.cells #[.int .i64 m.slot, .int .i64 m.dir, .int .i64 m.v, .int .i64 m.d] 44)) (w.heap.size + 1 + 1) 4 (some ⟨w.heap.size + 1, 0, none⟩) 1 (mc m) := by
  have h : ((w.alloc o1).alloc (.cells #[.int .i64 m.slot, .int .i64 m.dir, .int .i64 m.v, .int .i64 m.d] 44)).heap[w.heap.size + 1]? = some (.cells #[.int .i64 m.slot, .int .i64 m.dir, .int .i64 m.v, .int .i64 m.d] 44) := by
    have s1 : (w.alloc o1).heap.size = w.heap.size + 1 := World.size_alloc _ _
    rw [← s1]
    exact Array.getElem?_push_size
  refine ⟨rfl, fun _ => ⟨_, _, rfl, by omega, fun j u hu => ?_⟩⟩
  rw [Lib.cell_of_heap h, Nat.zero_add, ← Array.getElem?_toList]
  exact hu
theorem mail_box {w : World} {b : Nat} {x : Msg} (h : w.heap[b]? = some (.cells #[.int .i64 x.slot, .int .i64 x.dir, .int .i64 x.v, .int .i64 x.d] 44)) :
    w.cell? ⟨b, 0, none⟩ = some (.int .i64 x.slot) ∧ w.cell? ⟨b, 1, none⟩ = some (.int .i64 x.dir) ∧ w.cell? ⟨b, 2, none⟩ = some (.int .i64 x.v) ∧ w.cell? ⟨b, 3, none⟩ = some (.int .i64 x.d) := by
  refine ⟨?_, ?_, ?_, ?_⟩ <;> · rw [Lib.cell_of_heap h]; rfl

set_option maxRecDepth 100000 in
/-- The look-up of a message's key: with the value's shape written out. -/
theorem wpList_lookup_mail {w : World} {ops : Array Oper} {rest : List Oper} {o : Oper} {a : Act} {Q : Exit → Act → World → Prop} (hg : o.guard = none) (m x : Operand)
    (hop : o.op = Op.lookup 150 m x true) (b n : Nat) (D : DataW Msg) (hm : a.eval m = .map (some b)) (hown : w.ownsMap Tryz.prog 41 mR b n D)
    (key : Value) (kl : Lit) (hx : a.eval x = key) (hkey : keyOf Tryz.prog 41 key = some kl) (y : Msg) (hy : D.atKey kl (.held ⟨0, 0, 0, 0⟩) = .held y) (bb : Bool) (hb : Maps.has D kl = bb)
    (hK : wpList Tryz.prog ops Q rest (a.put o.dst (.tuple #[.agg #[.int .i64 y.slot, .int .i64 y.dir, .int .i64 y.v, .int .i64 y.d], .bool bb])) w) :
    wpList Tryz.prog ops Q (o :: rest) a w :=
  wpList_lookup_own_ok w hg m x _ hop 41 44 keyed Tryz.underlying150 mR (zeroMail w) (.held ⟨0, 0, 0, 0⟩) [] rfl b n D hm hown key kl hx hkey (fun v ps hv => by
    obtain ⟨m, rfl, h2⟩ := mR_inv hv
    rw [hy] at h2
    have e : m = y := by
      have := congrArg Prod.fst h2
      injection this with this
      exact this.symm
    subst e
    rw [hb]
    exact hK)

set_option maxRecDepth 100000 in
/-- The step of a range over such a map: with the shapes written out. -/
theorem wpList_next_mail {w : World} {ops : Array Oper} {rest : List Oper} {o : Oper} {a : Act} {Q : Exit → Act → World → Prop} (hg : o.guard = none) (it : Operand) (hop : o.op = Op.next it false)
    (b r n : Nat) (D : DataW Msg) (left : Lit → Bool) (cnt : Nat) (hit : a.eval it = .pointer (some ⟨r, 0, none⟩)) (h : w.ranges Tryz.prog 41 mR b r n D left cnt)
    (hDone : (∀ kl, left kl = false) → wpList Tryz.prog ops Q rest (a.put o.dst (.tuple #[.bool false])) w)
    (hMore : ∀ (x c : Msg) (kl : Lit) (w' : World) (cnt' : Nat), Hid (keyOf Tryz.prog 41 (.agg (kc x)) = some kl) → Hid (left kl = true) → Hid (∀ zd, D.atKey kl zd = .held c) → w'.ranges Tryz.prog 41 mR b r n D (fun z => left z && !z.sameKey kl) cnt' → cnt' < cnt →
      w.grownBy w' (some r) → w'.heap.size = w.heap.size → (Instr.entry (.pointer (some ⟨r, 0, none⟩))).run Tryz.prog w' = .ok (.tuple #[.agg #[.int .i64 x.slot, .int .i64 x.dir, .int .i64 x.v], .agg #[.int .i64 c.slot, .int .i64 c.dir, .int .i64 c.v, .int .i64 c.d]]) w' →
      wpList Tryz.prog ops Q rest (a.put o.dst (.tuple #[.bool true, .agg #[.int .i64 x.slot, .int .i64 x.dir, .int .i64 x.v], .agg #[.int .i64 c.slot, .int .i64 c.dir, .int .i64 c.v, .int .i64 c.d]])) w') :
    wpList Tryz.prog ops Q (o :: rest) a w :=
  wpList_next_ranges w hg it hop 41 keyed mR (fun m : Msg => .agg (kc m)) (fun m : Msg => .agg (mc m).toArray) (fun _ _ hk => key_inv hk) (fun _ _ hv => by obtain ⟨m, e, _⟩ := mR_inv hv; exact ⟨m, e⟩) b r n D left cnt hit h (fun _ hl => hDone hl)
    (fun x c kl y w' cnt' hkey hlk hv hat hrg hlt hgr hsz hen => hMore x c kl w' cnt' hkey hlk (fun zd => by
      rw [hat zd]
      have := mR_mk c
      rw [show mR (.agg (mc c).toArray) = some y from hv] at this
      injection this with this
      rw [this]) hrg hlt hgr hsz hen)

set_option maxRecDepth 100000 in
set_option maxHeartbeats 2000000 in
theorem combine_c (A : Option Addr) (n c : Nat) (ms : List Msg) (w : World) (hr : Reads w w.heap.size 4 A n (mv ms)) (hn : n ≤ 1000000) (hf : ∀ m ∈ ms, m.fits) :
    Calls Tryz.prog 66 #[.slice A n c] w fun e w' => ∃ A' n' c', e = .returned (.slice A' n' c') ∧ (combine ms).length = n' ∧ w'.ownsRow w.heap.size 44 4 (.slice A' n' c') n' (mv (combine ms)) ∧ Below w.heap.size w w' := by
  have hl := hr.mail_len
  have hmm := @run_makeMap Tryz.prog
  go_enter Tryz.func66, Tryz.ntmps66
  go_wp2_with (fail)
  clear hmm
  go_loopw [15] (fun i wr => ∃ (k : Nat) (D : DataW Msg), k ≤ n ∧ i = .int .i64 k ∧ wr.ownsMap Tryz.prog 41 mR w.heap.size k D ∧ Hid (MapHas D (combine (ms.take k))) ∧ Below w.heap.size w wr) (fun i _ => n - (intOf i).toNat)
  case atStart => exact ⟨0, .map [], Nat.zero_le _, rfl, World.ownsMap_made _ _ _ _, MapHas.nil, (Below.refl _ _).alloc (Nat.le_refl _) _⟩
  case round =>
    obtain ⟨k, D, hk, rfl, hown, hD, hB⟩ := hrel
    by_cases hlt : k < n
    · obtain ⟨b, o, x, rfl, hx, c0, c1, c2, c3⟩ := (hr.below hB).mail_at hlt
      have hxf : x.fits := hf x (List.mem_of_getElem? hx.out)
      obtain ⟨kl, hkey⟩ := key_reads x hxf
      have hrise := (combine_comb (ms.take k)).1
      have hstep : combine (ms.take (k + 1)) = putM (combine (ms.take k)) x := by rw [List.take_add_one, hx.out]; exact combine_snoc _ _
      obtain ⟨bb, y, hb, hy, hput, hstay⟩ : ∃ (bb : Bool) (y : Msg), Maps.has D kl = bb ∧ D.atKey kl (.held ⟨0, 0, 0, 0⟩) = .held y ∧
          Hid ((bb = false ∨ x.d < y.d) → MapHas (D.put kl (.held x)) (combine (ms.take (k + 1)))) ∧ Hid (bb = true → ¬ x.d < y.d → MapHas D (combine (ms.take (k + 1)))) := by
        by_cases hex : ∃ y ∈ combine (ms.take k), kEq y x
        · obtain ⟨y, hy, hyx⟩ := hex
          refine ⟨true, y, ((hD.out.2 x kl hkey).1).2 ⟨y, hy, hyx⟩, (hD.out.2 x kl hkey).2 y hy hyx _, ?_, ?_⟩
          · intro hc
            rw [hstep]
            refine hD.out.put hrise hkey fun z hz hzx => ?_
            have : z = y := rise_one hrise hz hy (kEq_trans hzx (kEq_symm hyx))
            subst this
            rcases hc with hc | hc
            · cases hc
            · omega
          · intro _ hc
            rw [hstep]
            exact hD.out.stay hrise hy hyx (by omega)
        · have hh : Maps.has D kl = false := by
            cases hhh : Maps.has D kl
            · rfl
            · exact absurd (((hD.out.2 x kl hkey).1).1 hhh) hex
          refine ⟨false, ⟨0, 0, 0, 0⟩, hh, Maps.atKey_of_not_has hh _, ?_, fun h => by cases h⟩
          intro _
          rw [hstep]
          exact hD.out.put hrise hkey fun z hz hzx => absurd ⟨z, hz, hzx⟩ hex
      have HK := Lib.hid hkey
      have HY := Lib.hid hy
      have HB := Lib.hid hb
      clear hkey hy hb hstep hrise hxf
      cases bb with
      | false =>
        go_wp2_with (first
          | (at_lookup; refine wpList_lookup_mail rfl _ _ rfl w.heap.size k D rfl (hown.alloc _) _ kl rfl HK.out y HY.out false HB.out ?_)
          | (at_mapUpdate; refine wpList_mapUpdate_own _ rfl _ _ _ 150 rfl 41 44 keyed Tryz.underlying150 mR w.heap.size k D rfl ((hown.alloc _).alloc _) (by unfold maxLen; omega) _ _ kl rfl rfl HK.out (.held x) [] rfl ?_; intro w1 hown1 hgrow1))
        go_roundw
        case rel => exact ⟨k + 1, _, by omega, by go_num, hown1, hput.out (.inl rfl), (((hB.alloc hB.size _).alloc (by simp; have := hB.size; omega) _).grown hgrow1 (by simp; have := hB.size; omega) (fun j hj => by cases hj; exact Nat.le_refl _))⟩
        case measure => simp [intOf]; omega
      | true =>
        by_cases hd : x.d < y.d
        · go_wp2_with (first
            | (at_lookup; refine wpList_lookup_mail rfl _ _ rfl w.heap.size k D rfl (hown.alloc _) _ kl rfl HK.out y HY.out true HB.out ?_)
            | (go_at_call 102; refine (nearer_c x y _).mono ?_; rintro e w3 ⟨rfl, hB3⟩; obtain ⟨d0, d1, d2, d3⟩ := mail_box (box_kept hB3); have hown3 := ((hown.alloc _).alloc _).kept (only_of_below hB3 none) (by simp))
            | (at_mapUpdate; refine wpList_mapUpdate_own _ rfl _ _ _ 150 rfl 41 44 keyed Tryz.underlying150 mR w.heap.size k D rfl hown3 (by unfold maxLen; omega) _ _ kl rfl rfl HK.out (.held x) [] rfl ?_; intro w1 hown1 hgrow1))
          have hBB := ((hB.alloc hB.size _).alloc (by simp; have := hB.size; omega) _).trans (hB3.mono (by simp; have := hB.size; omega))
          go_roundw
          case rel => exact ⟨k + 1, _, by omega, by go_num, hown1, hput.out (.inr hd), hBB.grown hgrow1 hBB.size (fun j hj => by cases hj; exact Nat.le_refl _)⟩
          case measure => simp [intOf]; omega
        · have hdf : decide (x.d < y.d) = false := decide_eq_false hd
          go_wp2_with (first
            | (at_lookup; refine wpList_lookup_mail rfl _ _ rfl w.heap.size k D rfl (hown.alloc _) _ kl rfl HK.out y HY.out true HB.out ?_)
            | (go_at_call 102; refine (nearer_c x y _).mono ?_; rintro e w3 ⟨rfl, hB3⟩; have hown3 := ((hown.alloc _).alloc _).kept (only_of_below hB3 none) (by simp)))
          have hBB := ((hB.alloc hB.size _).alloc (by simp; have := hB.size; omega) _).trans (hB3.mono (by simp; have := hB.size; omega))
          go_roundw
          case rel => exact ⟨k + 1, D, by omega, by go_num, hown3.mono (by omega), hstay.out (by simp) hd, hBB⟩
          case measure => simp [intOf]; omega
    · obtain rfl : k = n := by omega
      have hM : Hid (MapHas D (combine ms)) := by
        have := hD.out
        rw [List.take_of_length_le (by omega)] at this
        exact this
      have hbl := hown.lt
      clear hD hr
      go_wp2_with (at_range; refine wpList_range_own _ rfl _ 150 rfl 41 44 keyed Tryz.underlying150 mR w.heap.size k D rfl hown ?_; intro w0 hrg0 hg0 hs0)
      go_frame
      have hB0 : Below w.heap.size w w0 := hB.grown hg0 hB.size (fun j hj => by cases hj)
      have hsd := hown.size_le
      clear hown hg0
      generalize wr.heap.size = r at hrg0 hs0 hbl ⊢
      clear hB
      go_loopw [9] (fun v wq => ∃ (left : Lit → Bool) (cnt : Nat) (o : List Msg) (A' : Option Addr) (c' : Nat), v = .slice A' o.length c' ∧ wq.ranges Tryz.prog 41 mR w.heap.size r k D left cnt ∧ Hid (Met (combine ms) o left) ∧
          wq.ownsRow (r + 1) 44 4 (.slice A' o.length c') o.length (mv o) ∧ o.length + cnt ≤ k ∧ Below w.heap.size w wq ∧ r + 1 ≤ wq.heap.size) (fun _ wq => wq.rangeLeft w.heap.size r)
      case atStart => exact ⟨_, _, [], none, 0, rfl, hrg0, Met.start hM.out, own_nil, by simpa using hsd, hB0, by omega⟩
      case round =>
        obtain ⟨left, cnt, o, A', c', rfl, hrg, hmet, ho, hcnt, hB, hsz⟩ := hrel
        go_wp2_with (at_next; refine wpList_next_mail rfl _ rfl w.heap.size r k D left cnt rfl hrg ?_ ?_)
        · intro hl0
          have hol : o.length ≤ 1000000000 := by omega
          have hall := Lib.hid (hmet.out.all (fun y hy => hf y (mem_combine hy)) hl0)
          have hnd := Lib.hid hmet.out.nodup
          clear hrg hmet hl0
          go_wp2_with (fail)
          refine (sort_c ho hol).mono ?_
          rintro e w3 ⟨rfl, d', hp, hs, ho3, hg3⟩
          have hd : Hid (d' = combine ms) := sorted_is (combine_comb ms).1 hall.out hnd.out hp hs
          have hlen : Hid ((combine ms).length = o.length) := by rw [← hd.out]; exact hp.length_eq
          clear hp hs
          go_wp2_with (fail)
          go_ret
          refine ⟨A', o.length, c', rfl, hlen.out, ?_, ?_⟩
          · rw [← hd.out]; exact own_more ho3 (by omega)
          · exact hB.grown hg3 hB.size (fun j hj => by
              cases hA : A' with
              | none => rw [hA] at hj; cases hj
              | some a => rw [hA] at hj; have := (own_lt ho a hA).1; simp at hj; omega)
        · intro x c2 kl w1 cnt1 hkey hlk hat hrg1 hlt1 hg1 hs1 hen
          have hst := Lib.hid (hmet.out.step hM.out (combine_comb ms).1 hkey.out hlk.out hat.out)
          have ho1 : w1.ownsRow (r + 1) 44 4 (.slice A' o.length c') o.length (mv o) := own_only ho hg1 (fun a ha e => by have := (own_lt ho a ha).1; injection e; omega)
          have hsz1 : r + 1 ≤ w1.heap.size := by omega
          have hB1 : Below w.heap.size w w1 := hB.grown hg1 hB.size (fun j hj => by injection hj; omega)
          have HL := Lib.hid hrg.left_eq
          clear hs1 hkey hlk hat hmet hrg hg1 ho
          go_wp2_with (at_builtin; go_must (refine wpList_cat elMail rfl _ _ rfl ((ho1.alloc _).alloc _) rfl (reads_box2 w1 _ c2) rfl (mc_one c2) (by unfold maxLen; omega) (by omega) (by simp; omega) ?_; intro A4 c4 w4 ho4 p4))
          have hrg4 := ((hrg1.alloc _).alloc _).kept p4.grown (fun e => by
              cases hA : A' with
              | none => rw [hA] at e; cases e
              | some a => rw [hA] at e; have := (own_lt ho1 a hA).1; simp at e; omega) (fun e => by
              cases hA : A' with
              | none => rw [hA] at e; cases e
              | some a => rw [hA] at e; have := (own_lt ho1 a hA).1; simp at e; omega)
          have hl : (o ++ [c2]).length = o.length + 1 := by simp
          go_roundw
          case rel =>
            refine ⟨_, cnt1, o ++ [c2], A4, c4, by rw [hl], hrg4, hst.out.2.2, ?_, by rw [hl]; omega, ?_, ?_⟩
            · rw [hl, mv_append, show mv [c2] = mc c2 by simp [mv]]; exact ho4
            · exact p4.below ((ho1.alloc _).alloc _) ((hB1.alloc hB1.size _).alloc (by simp; have := hB1.size; omega) _) (by omega) (by simp; have := hB1.size; omega)
            · have := p4.larger; simp at this; omega
          case measure => rw [hrg4.left_eq, HL.out]; exact hlt1
end Go.Proofs.YtichoidkemeibaaGreat

namespace Go.Proofs.YtichoidkemeibaaGreat

structure Edg where
  src : Int
  dst : Int
theorem Edg.eq_iff (a b : Edg) : a = b ↔ a.src = b.src ∧ a.dst = b.dst := by cases a; cases b; simp
instance : DecidableEq Edg := fun a b => decidable_of_iff _ (Edg.eq_iff a b).symm
structure Gr where
  n : Int
  es : List Edg
  ws : List (List ByteArray)
theorem Gr.eq_iff (a b : Gr) : a = b ↔ a.n = b.n ∧ a.es = b.es ∧ a.ws = b.ws := by cases a; cases b; simp
instance : DecidableEq Gr := fun a b => decidable_of_iff _ (Gr.eq_iff a b).symm

/-- Elements that rise. -/
def Rises {α : Type} (lt : α → α → Prop) : List α → Prop
  | a :: b :: l => lt a b ∧ Rises lt (b :: l)
  | _ => True
def decRises {α : Type} (lt : α → α → Prop) (d : ∀ a b, Decidable (lt a b)) : (l : List α) → Decidable (Rises lt l)
  | [] => .isTrue trivial
  | [_] => .isTrue trivial
  | a :: b :: l => @instDecidableAnd _ _ (d a b) (decRises lt d (b :: l))
theorem rises_iff {α : Type} (lt : α → α → Prop) : ∀ l : List α, Rises lt l ↔ ∀ k a b, l[k]? = some a → l[k + 1]? = some b → lt a b
  | [] => ⟨fun _ k a b h => by simp at h, fun _ => trivial⟩
  | [x] => ⟨fun _ k a b _ h => by simp at h, fun _ => trivial⟩
  | x :: y :: l => by
    show lt x y ∧ Rises lt (y :: l) ↔ _
    rw [rises_iff lt (y :: l)]
    constructor
    · rintro ⟨h1, h2⟩ k a b ha hb
      cases k with
      | zero =>
        simp at ha hb
        subst ha hb
        exact h1
      | succ k => exact h2 k a b (by simpa using ha) (by simpa using hb)
    · intro h
      exact ⟨h 0 x y rfl rfl, fun k a b ha hb => h (k + 1) a b (by simpa using ha) (by simpa using hb)⟩
theorem rises_pair {α : Type} (lt : α → α → Prop) (tr : ∀ a b c, lt a b → lt b c → lt a c) : ∀ l : List α, Rises lt l → l.Pairwise lt
  | [], _ => List.Pairwise.nil
  | [x], _ => by simp
  | x :: y :: l, h => by
    obtain ⟨h1, h2⟩ : lt x y ∧ Rises lt (y :: l) := h
    have ih := rises_pair lt tr (y :: l) h2
    refine List.Pairwise.cons (fun z hz => ?_) ih
    rcases List.mem_cons.1 hz with rfl | hz
    · exact h1
    · exact tr _ _ _ h1 ((List.pairwise_cons.1 ih).1 z hz)

def isWord (s : ByteArray) : Prop := (1 ≤ s.size ∧ s.size ≤ 12) ∧ ∀ c ∈ s.data.toList, 97 ≤ c.toNat ∧ c.toNat ≤ 122
instance (s : ByteArray) : Decidable (isWord s) := by unfold isWord; infer_instance
def place (n v : Int) : Prop := 0 ≤ v ∧ v < n
instance (n v : Int) : Decidable (place n v) := by unfold place; infer_instance
def placeE (n : Int) (e : Edg) : Prop := place n e.src ∧ place n e.dst
instance (n : Int) (e : Edg) : Decidable (placeE n e) := by unfold placeE; infer_instance
def wordsOk (l : List ByteArray) : Prop := l.length ≤ 8 ∧ ∀ w ∈ l, isWord w
instance (l : List ByteArray) : Decidable (wordsOk l) := by unfold wordsOk; infer_instance
def checkG (g : Gr) : Prop := (1 ≤ g.n ∧ g.n ≤ 200) ∧ g.es.length ≤ 2000 ∧ (g.ws.length : Int) = g.n ∧ (∀ e ∈ g.es, placeE g.n e) ∧ ∀ l ∈ g.ws, wordsOk l
instance (g : Gr) : Decidable (checkG g) := by unfold checkG; infer_instance
def lessE (a b : Edg) : Prop := a.src < b.src ∨ (a.src = b.src ∧ a.dst < b.dst)
instance (a b : Edg) : Decidable (lessE a b) := by unfold lessE; infer_instance
def ltW (a b : ByteArray) : Prop := a.toList < b.toList
instance (a b : ByteArray) : Decidable (ltW a b) := by unfold ltW; infer_instance
def riseE (l : List Edg) : Prop := Rises lessE l
def riseW (l : List ByteArray) : Prop := Rises ltW l
instance (l : List Edg) : Decidable (riseE l) := decRises lessE (fun _ _ => inferInstance) l
instance (l : List ByteArray) : Decidable (riseW l) := decRises ltW (fun _ _ => inferInstance) l
def isG (g : Gr) : Prop := checkG g ∧ riseE g.es ∧ ∀ l ∈ g.ws, riseW l
instance (g : Gr) : Decidable (isG g) := by unfold isG; infer_instance


theorem snoc_ind {α : Type} {p : List α → Prop} (h0 : p []) (h1 : ∀ l x, p l → p (l ++ [x])) : ∀ l, p l := by
  intro l
  have key : ∀ m : List α, p m.reverse := by
    intro m
    induction m with
    | nil => exact h0
    | cons a m ih => rw [List.reverse_cons]; exact h1 _ _ ih
  have := key l.reverse
  rwa [List.reverse_reverse] at this
theorem lessE_trans (a b c : Edg) (h1 : lessE a b) (h2 : lessE b c) : lessE a c := by
  unfold lessE at *
  omega

def noG : Gr := ⟨0, [], []⟩
theorem size_listG (s : ByteArray) : s.data.toList.length = s.size := by rw [Array.length_toList]; rfl
theorem bytes_extG {s t : ByteArray} (h : s.data.toList = t.data.toList) : s = t := ByteArray.ext (Array.ext' h)
end Go.Proofs.YtichoidkemeibaaGreat

namespace Go.Proofs.YtichoidkemeibaaGreat
open Go.RowKit

/-- Each of the slices vs owns its row of rs; no two lie in one block. -/
def RowsOwn (w : World) (base : Nat) (e : TypeId) (sz : Nat) (vs : List Value) (rs : List (List Value)) : Prop :=
  vs.length = rs.length ∧
  (∀ (i : Nat) (v : Value) (r : List Value), vs[i]? = some v → rs[i]? = some r → ∃ A n c, v = Value.slice A n c ∧ w.ownsRow base e sz (Value.slice A n c) n r) ∧
  (∀ (i j : Nat) (A : Option Addr) (n c : Nat) (A' : Option Addr) (n' c' : Nat), i ≠ j → vs[i]? = some (Value.slice A n c) → vs[j]? = some (Value.slice A' n' c') → Apart A A')

/-- Each of the slices vs reads as its row of rs. -/
def RowsRead (w : World) (B sz : Nat) (vs : List Value) (rs : List (List Value)) : Prop :=
  vs.length = rs.length ∧ ∀ (i : Nat) (v : Value) (r : List Value), vs[i]? = some v → rs[i]? = some r → ∃ A n c, v = Value.slice A n c ∧ n ≤ maxLen ∧ Reads w B sz A n r

/-- None of the slices lies in A's block. -/
def ApartAll (vs : List Value) (A : Option Addr) : Prop := ∀ (j : Nat) (C : Option Addr) (n c : Nat), vs[j]? = some (Value.slice C n c) → Apart C A

section
variable {w w' : World} {base sz n c n' c' : Nat} {e : TypeId} {vs : List Value} {rs : List (List Value)} {A A' C C' : Option Addr}

theorem RowsOwn.len (h : RowsOwn w base e sz vs rs) : vs.length = rs.length := h.1

theorem RowsOwn.at_ (h : RowsOwn w base e sz vs rs) {i : Nat} {r : List Value} (hr : rs[i]? = some r) : ∃ A n c, vs[i]? = some (Value.slice A n c) ∧ w.ownsRow base e sz (Value.slice A n c) n r := by
  obtain ⟨hi, _⟩ := List.getElem?_eq_some_iff.1 hr
  have hv : vs[i]? = some (vs[i]'(by rw [h.1]; exact hi)) := List.getElem?_eq_getElem (by rw [h.1]; exact hi)
  obtain ⟨A, n, c, e1, e2⟩ := h.2.1 i _ r hv hr
  exact ⟨A, n, c, by rw [hv, e1], e2⟩

theorem rowsOwn_nil (w : World) (base : Nat) (e : TypeId) (sz : Nat) : RowsOwn w base e sz [] [] :=
  ⟨rfl, fun i v r h => by simp at h, fun i j A n c A' n' c' _ h => by simp at h⟩

theorem rowsOwn_nils (w : World) (base : Nat) (e : TypeId) (sz k : Nat) : RowsOwn w base e sz (List.replicate k (Value.slice none 0 0)) (List.replicate k []) := by
  refine ⟨by simp, fun i v r h1 h2 => ?_, fun i j A n c A' n' c' _ h1 _ => ?_⟩
  · rw [List.getElem?_replicate] at h1 h2
    split at h1
    · rw [if_pos ‹_›] at h2
      cases h1; cases h2
      exact ⟨none, 0, 0, rfl, own_nil⟩
    · cases h1
  · rw [List.getElem?_replicate] at h1
    split at h1
    · cases h1; exact Apart.none_left
    · cases h1

theorem RowsOwn.keep_ (h : RowsOwn w base e sz vs rs) (hk : ∀ (A : Option Addr) (n c : Nat) (r : List Value), (∃ i : Nat, vs[i]? = some (Value.slice A n c)) → w.ownsRow base e sz (Value.slice A n c) n r → w'.ownsRow base e sz (Value.slice A n c) n r) : RowsOwn w' base e sz vs rs :=
  ⟨h.1, fun i v r h1 h2 => by
    obtain ⟨A, n, c, rfl, ho⟩ := h.2.1 i v r h1 h2
    exact ⟨A, n, c, rfl, hk A n c r ⟨i, h1⟩ ho⟩, h.2.2⟩

theorem RowsOwn.only (h : RowsOwn w base e sz vs rs) {g : Nat} (hg : w.grownBy w' (some g)) (hlt : g < base) : RowsOwn w' base e sz vs rs :=
  h.keep_ fun _ _ _ _ _ ho => own_only ho hg (fun a ha e => by have := (own_lt ho a ha).1; injection e; omega)

theorem RowsOwn.below (h : RowsOwn w base e sz vs rs) (hB : Below w.heap.size w w') : RowsOwn w' base e sz vs rs := h.keep_ fun _ _ _ _ _ ho => own_below ho hB

theorem RowsOwn.kept (h : RowsOwn w base e sz vs rs) (p : Pushed w w' A A') (ha : ApartAll vs A) : RowsOwn w' base e sz vs rs :=
  h.keep_ fun _ _ _ _ ⟨i, hi⟩ ho => p.keep ho (ha i _ _ _ hi)

theorem RowsOwn.apart (h : RowsOwn w base e sz vs rs) (p : Pushed w w' A A') (ha : ApartAll vs A) : ApartAll vs A' := by
  intro j C n c hj
  obtain ⟨hi, _⟩ := List.getElem?_eq_some_iff.1 hj
  have hr : rs[j]? = some (rs[j]'(by rw [← h.1]; exact hi)) := List.getElem?_eq_getElem (by rw [← h.1]; exact hi)
  obtain ⟨D, m, d, e1, ho⟩ := h.2.1 j _ _ hj hr
  cases e1
  exact p.apart ho (ha j _ _ _ hj)

theorem RowsOwn.more (h : RowsOwn w base e sz vs rs) {b : Nat} (hb : b ≤ base) : RowsOwn w b e sz vs rs :=
  ⟨h.1, fun i v r h1 h2 => by
    obtain ⟨A, n, c, rfl, ho⟩ := h.2.1 i v r h1 h2
    exact ⟨A, n, c, rfl, own_more ho hb⟩, h.2.2⟩

/-- A row grows. -/
theorem RowsOwn.push (h : RowsOwn w base e sz vs rs) {i : Nat} {r' : List Value} (hi : vs[i]? = some (Value.slice A n c)) (hi2 : i < rs.length) (ho : w'.ownsRow base e sz (Value.slice A' n' c') n' r') (p : Pushed w w' A A') :
    RowsOwn w' base e sz (vs.set i (Value.slice A' n' c')) (rs.set i r') := by
  have hall : ∀ j D m d, j ≠ i → vs[j]? = some (Value.slice D m d) → Apart D A' ∧ ∀ r, rs[j]? = some r → w'.ownsRow base e sz (Value.slice D m d) m r := by
    intro j D m d hj hd
    have hr : rs[j]? = some (rs[j]'(by rw [← h.1]; exact (List.getElem?_eq_some_iff.1 hd).1)) := List.getElem?_eq_getElem _
    have ap := h.2.2 j i _ _ _ _ _ _ hj hd hi
    obtain ⟨_, _, _, e1, hod⟩ := h.2.1 j _ _ hd hr
    cases e1
    refine ⟨p.apart hod ap, fun r hr' => ?_⟩
    obtain ⟨_, _, _, e2, hod2⟩ := h.2.1 j _ _ hd hr'
    cases e2
    exact p.keep hod2 ap
  refine ⟨by simpa using h.1, fun j v r h1 h2 => ?_, fun j k D m d D' m' d' hjk h1 h2 => ?_⟩
  · by_cases hj : j = i
    · subst hj
      rw [List.getElem?_set_self (by rw [h.1]; exact hi2)] at h1
      rw [List.getElem?_set_self hi2] at h2
      cases h1; cases h2
      exact ⟨_, _, _, rfl, ho⟩
    · rw [List.getElem?_set_ne (Ne.symm hj)] at h1 h2
      obtain ⟨D, m, d, rfl, _⟩ := h.2.1 j v r h1 h2
      exact ⟨D, m, d, rfl, (hall j D m d hj h1).2 r h2⟩
  · by_cases hj : j = i
    · subst hj
      rw [List.getElem?_set_self (by rw [h.1]; exact hi2)] at h1
      rw [List.getElem?_set_ne hjk] at h2
      cases h1
      exact (hall k _ _ _ (Ne.symm hjk) h2).1.symm
    · rw [List.getElem?_set_ne (Ne.symm hj)] at h1
      by_cases hk : k = i
      · subst hk
        rw [List.getElem?_set_self (by rw [h.1]; exact hi2)] at h2
        cases h2
        exact (hall j _ _ _ hj h1).1
      · rw [List.getElem?_set_ne (Ne.symm hk)] at h2
        exact h.2.2 j k _ _ _ _ _ _ hjk h1 h2

/-- One row more. -/
theorem RowsOwn.snoc (h : RowsOwn w base e sz vs rs) {r' : List Value} (ho : w.ownsRow base e sz (Value.slice A n c) n r') (ha : ApartAll vs A) : RowsOwn w base e sz (vs ++ [Value.slice A n c]) (rs ++ [r']) := by
  have hget : ∀ j v, (vs ++ [Value.slice A n c])[j]? = some v → (j < vs.length ∧ vs[j]? = some v) ∨ (j = vs.length ∧ v = Value.slice A n c) := by
    intro j v hj
    rcases Nat.lt_or_ge j vs.length with hl | hl
    · rw [List.getElem?_append_left hl] at hj; exact .inl ⟨hl, hj⟩
    · rw [List.getElem?_append_right hl] at hj
      obtain ⟨h1, h2⟩ := List.getElem?_eq_some_iff.1 hj
      have hz : j - vs.length = 0 := by simpa using h1
      refine .inr ⟨by omega, ?_⟩
      rw [hz] at hj
      simpa using hj.symm
  refine ⟨by simp [h.1], fun j v r h1 h2 => ?_, fun j k D m d D' m' d' hjk h1 h2 => ?_⟩
  · rcases hget j v h1 with ⟨hl, hv⟩ | ⟨rfl, rfl⟩
    · rw [List.getElem?_append_left (by rw [← h.1]; exact hl)] at h2
      exact h.2.1 j v r hv h2
    · rw [List.getElem?_append_right (by rw [h.1]; exact Nat.le_refl _), h.1, Nat.sub_self] at h2
      simp at h2
      subst h2
      exact ⟨_, _, _, rfl, ho⟩
  · rcases hget j _ h1 with ⟨hl, hv⟩ | ⟨rfl, hv⟩
    · rcases hget k _ h2 with ⟨hl2, hv2⟩ | ⟨rfl, hv2⟩
      · exact h.2.2 j k _ _ _ _ _ _ hjk hv hv2
      · cases hv2; exact ha j _ _ _ hv
    · rcases hget k _ h2 with ⟨hl2, hv2⟩ | ⟨rfl, hv2⟩
      · cases hv; exact (ha k _ _ _ hv2).symm
      · exact absurd rfl hjk

theorem RowsOwn.reads (h : RowsOwn w base e sz vs rs) : RowsRead w w.heap.size sz vs rs :=
  ⟨h.1, fun i v r h1 h2 => by
    obtain ⟨A, n, c, rfl, ho⟩ := h.2.1 i v r h1 h2
    exact ⟨A, n, c, rfl, Nat.le_trans (own_cap ho).1 (own_cap ho).2, own_reads ho⟩⟩

theorem RowsRead.below {B : Nat} (h : RowsRead w B sz vs rs) (hB : Below B w w') : RowsRead w' B sz vs rs :=
  ⟨h.1, fun i v r h1 h2 => by
    obtain ⟨A, n, c, rfl, hn, ho⟩ := h.2 i v r h1 h2
    exact ⟨A, n, c, rfl, hn, ho.below hB⟩⟩
theorem RowsRead.more {B B' : Nat} (h : RowsRead w B sz vs rs) (hB : B ≤ B') : RowsRead w B' sz vs rs :=
  ⟨h.1, fun i v r h1 h2 => by
    obtain ⟨A, n, c, rfl, hn, ho⟩ := h.2 i v r h1 h2
    exact ⟨A, n, c, rfl, hn, ho.more hB⟩⟩
theorem RowsRead.at_ {B : Nat} (h : RowsRead w B sz vs rs) {i : Nat} {r : List Value} (hr : rs[i]? = some r) : ∃ A n c, vs[i]? = some (Value.slice A n c) ∧ n ≤ maxLen ∧ Reads w B sz A n r := by
  obtain ⟨hi, _⟩ := List.getElem?_eq_some_iff.1 hr
  have hv : vs[i]? = some (vs[i]'(by rw [h.1]; exact hi)) := List.getElem?_eq_getElem (by rw [h.1]; exact hi)
  obtain ⟨A, n, c, e1, e2⟩ := h.2 i _ r hv hr
  exact ⟨A, n, c, by rw [hv, e1], e2⟩

/-- Rows of unlike element types lie apart. -/
theorem own_ne {e' : TypeId} {sz' m d base' : Nat} {xs ys : List Value} (h : w.ownsRow base e sz (Value.slice A n c) n xs) (h' : w.ownsRow base' e' sz' (Value.slice C m d) m ys) (hne : e ≠ e') : Apart A C := by
  intro a b ha hb hab
  rcases h.2 with ⟨hv, _⟩ | ⟨g, cap, cur, hv, _, hg, _⟩
  · cases hv; cases ha
  · rcases h'.2 with ⟨hv', _⟩ | ⟨g', cap', cur', hv', _, hg', _⟩
    · cases hv'; cases hb
    · cases hv; cases hv'; cases ha; cases hb
      dsimp only at hab
      subst hab
      rw [hg] at hg'
      injection hg' with hg'
      injection hg' with _ ht
      exact hne ht
theorem RowsOwn.apart_ne {e' : TypeId} {sz' base' : Nat} {xs : List Value} (h : RowsOwn w base e sz vs rs) (h' : w.ownsRow base' e' sz' (Value.slice A n c) n xs) (hne : e ≠ e') : ApartAll vs A := by
  intro j C m d hj
  obtain ⟨hi, _⟩ := List.getElem?_eq_some_iff.1 hj
  have hr : rs[j]? = some (rs[j]'(by rw [← h.1]; exact hi)) := List.getElem?_eq_getElem (by rw [← h.1]; exact hi)
  obtain ⟨_, _, _, e1, ho⟩ := h.2.1 j _ _ hj hr
  cases e1
  exact own_ne ho h' hne

theorem RowsOwn.apart_base {e' : TypeId} {sz' B : Nat} {xs : List Value} (h : RowsOwn w base e sz vs rs) (h' : w'.ownsRow B e' sz' (Value.slice A n c) n xs) (hlt : w.heap.size ≤ B) : ApartAll vs A := by
  intro j C m d hj
  obtain ⟨hi, _⟩ := List.getElem?_eq_some_iff.1 hj
  have hr : rs[j]? = some (rs[j]'(by rw [← h.1]; exact hi)) := List.getElem?_eq_getElem (by rw [← h.1]; exact hi)
  obtain ⟨_, _, _, e1, ho⟩ := h.2.1 j _ _ hj hr
  cases e1
  exact apart_of_lt ho h' hlt

/-- An owned row of slices: one of them. -/
theorem own_slice_at {g k : Nat} (h : w.ownsRow base e 1 (Value.slice (some ⟨g, 0, none⟩) n c) n vs) (hk : vs[k]? = some (Value.slice C n' c')) : w.cell? ⟨g, k, none⟩ = some (Value.slice C n' c') := by
  have hl := h.1
  obtain ⟨hi, _⟩ := List.getElem?_eq_some_iff.1 hk
  rw [h.cellAt k (by omega)]; exact hk
theorem Reads.val_at {B k : Nat} {u : Value} (h : Reads w B 1 A n vs) (hk : vs[k]? = some u) : ∃ b o, A = some ⟨b, o, none⟩ ∧ w.cell? ⟨b, o + k, none⟩ = some u := by
  have hl := h.1
  obtain ⟨hi, _⟩ := List.getElem?_eq_some_iff.1 hk
  obtain ⟨b, o, e, _, hc⟩ := h.2 (by omega)
  exact ⟨b, o, e, hc k u hk⟩
end
end Go.Proofs.YtichoidkemeibaaGreat

namespace Go.Proofs.YtichoidkemeibaaGreat
open Go.RowKit

theorem below_oneG (w : World) (o : Obj) : Below w.heap.size w (w.alloc o) := (Below.refl _ _).alloc (Nat.le_refl _) o

/-- Texts as cells. -/
def sv (l : List ByteArray) : List Value := l.map Value.string
theorem sv_get {l : List ByteArray} {k : Nat} {u : Value} (h : (sv l)[k]? = some u) : ∃ x, l[k]? = some x ∧ u = .string x := by
  unfold sv at h
  rw [List.getElem?_map] at h
  cases hl : l[k]? with
  | none => rw [hl] at h; cases h
  | some x => rw [hl] at h; exact ⟨x, rfl, by cases h; rfl⟩
theorem sv_append (l m : List ByteArray) : sv (l ++ m) = sv l ++ sv m := by simp [sv]
theorem sv_len (l : List ByteArray) : (sv l).length = l.length := by simp [sv]
theorem sv_one (l : List ByteArray) : ∀ u ∈ sv l, u.oneCell' = true := by
  intro u hu
  simp only [sv, List.mem_map] at hu
  obtain ⟨x, _, rfl⟩ := hu
  rfl
theorem sv_inj : ∀ {l m : List ByteArray}, sv l = sv m → l = m
  | [], [], _ => rfl
  | [], _ :: _, h => by cases h
  | _ :: _, [], h => by cases h
  | a :: l, b :: m, h => by
    simp only [sv, List.map_cons, List.cons.injEq] at h
    obtain ⟨h1, h2⟩ := h
    injection h1 with h1
    rw [h1, sv_inj h2]

/-- Edges as cells. -/
def ec (e : Edg) : List Value := [.int .i64 e.src, .int .i64 e.dst]
def ev (l : List Edg) : List Value := l.flatMap ec
theorem ec_len (e : Edg) : (ec e).length = 2 := rfl
theorem ev_len (l : List Edg) : (ev l).length = l.length * 2 := flat_len ec 2 ec_len l
theorem ev_append (l m : List Edg) : ev (l ++ m) = ev l ++ ev m := List.flatMap_append
theorem ec_one (e : Edg) : ∀ u ∈ ec e, u.oneCell' = true := by
  intro u hu
  simp only [ec, List.mem_cons, List.not_mem_nil, or_false] at hu
  rcases hu with rfl | rfl <;> rfl
theorem ev_one (l : List Edg) : ∀ u ∈ ev l, u.oneCell' = true := by
  intro u hu
  obtain ⟨m, _, hm⟩ := List.mem_flatMap.1 hu
  exact ec_one m u hm
def wv (l : List (List ByteArray)) : List (List Value) := l.map sv
theorem wv_len (l : List (List ByteArray)) : (wv l).length = l.length := by simp [wv]
theorem wv_get {l : List (List ByteArray)} {k : Nat} {x : List ByteArray} (h : l[k]? = some x) : (wv l)[k]? = some (sv x) := by rw [wv, List.getElem?_map, h]; rfl
theorem wv_append (l m : List (List ByteArray)) : wv (l ++ m) = wv l ++ wv m := by simp [wv]

section
variable {w w' : World} {B n : Nat} {A : Option Addr}
theorem Reads.str_at {xs : List ByteArray} {k : Nat} (h : Reads w B 1 A n (sv xs)) (hk : k < n) :
    ∃ b o x, A = some ⟨b, o, none⟩ ∧ Hid (xs[k]? = some x) ∧ w.cell? ⟨b, o + k, none⟩ = some (.string x) := by
  obtain ⟨b, o, e, _, hc⟩ := h.2 (by omega)
  have hl : xs.length = n := by have := h.1; simpa [sv] using this
  have hx : xs[k]? = some (xs[k]'(by omega)) := List.getElem?_eq_getElem (by omega)
  exact ⟨b, o, _, e, hx, hc k _ (by simp [sv, hx])⟩
theorem Reads.str_len {xs : List ByteArray} (h : Reads w B 1 A n (sv xs)) : xs.length = n := by
  have := h.1; simpa [sv] using this
theorem Reads.edge_len {xs : List Edg} (h : Reads w B 2 A n (ev xs)) : xs.length = n := by
  have := h.1; rw [ev_len] at this; omega
theorem Reads.edge_at {xs : List Edg} {k : Nat} (h : Reads w B 2 A n (ev xs)) (hk : k < n) :
    ∃ b o m, A = some ⟨b, o, none⟩ ∧ Hid (xs[k]? = some m) ∧ w.cell? ⟨b, o + k * 2, none⟩ = some (.int .i64 m.src) ∧ w.cell? ⟨b, o + k * 2 + 1, none⟩ = some (.int .i64 m.dst) := by
  have hl := h.edge_len
  obtain ⟨b, o, e, _, hc'⟩ := h.2 (by omega)
  have hx : xs[k]? = some (xs[k]'(by omega)) := List.getElem?_eq_getElem (by omega)
  have hf := fun r hr => flat_get ec 2 ec_len xs k r _ hx hr
  exact ⟨b, o, _, e, hx, hc' _ _ (hf 0 (by omega)), by rw [Nat.add_assoc]; exact hc' _ _ (hf 1 (by omega))⟩
end

/-- A graph that can be read. -/
structure GrIn (w : World) (B : Nat) (g : Gr) (A1 : Option Addr) (n1 : Nat) (A2 : Option Addr) (n2 : Nat) (vs : List Value) : Prop where
  es : Reads w B 2 A1 n1 (ev g.es)
  rows : Reads w B 1 A2 n2 vs
  words : RowsRead w B 1 vs (wv g.ws)
  m1 : n1 ≤ maxLen
  m2 : n2 ≤ maxLen
section
variable {w w' : World} {B B' n1 n2 : Nat} {A1 A2 : Option Addr} {g : Gr} {vs : List Value}
theorem GrIn.below (h : GrIn w B g A1 n1 A2 n2 vs) (hB : Below B w w') : GrIn w' B g A1 n1 A2 n2 vs := ⟨h.es.below hB, h.rows.below hB, h.words.below hB, h.m1, h.m2⟩
theorem GrIn.more (h : GrIn w B g A1 n1 A2 n2 vs) (hB : B ≤ B') : GrIn w B' g A1 n1 A2 n2 vs := ⟨h.es.more hB, h.rows.more hB, h.words.more hB, h.m1, h.m2⟩
theorem GrIn.len1 (h : GrIn w B g A1 n1 A2 n2 vs) : g.es.length = n1 := h.es.edge_len
theorem GrIn.len2 (h : GrIn w B g A1 n1 A2 n2 vs) : g.ws.length = n2 := by
  have e1 := h.rows.1
  have e2 := h.words.1
  rw [wv_len] at e2
  omega
theorem GrIn.row_at (h : GrIn w B g A1 n1 A2 n2 vs) {k : Nat} (hk : k < n2) :
    ∃ b o A n c l, A2 = some ⟨b, o, none⟩ ∧ Hid (g.ws[k]? = some l) ∧ w.cell? ⟨b, o + k, none⟩ = some (.slice A n c) ∧ n ≤ maxLen ∧ Reads w B 1 A n (sv l) := by
  have hl := h.len2
  have hx : g.ws[k]? = some (g.ws[k]'(by omega)) := List.getElem?_eq_getElem (by omega)
  obtain ⟨A, n, c, hv, hn, hr⟩ := h.words.at_ (wv_get hx)
  obtain ⟨b, o, e, hc⟩ := h.rows.val_at hv
  exact ⟨b, o, A, n, c, _, e, hx, hc, hn, hr⟩
theorem GrIn.row_of (h : GrIn w B g A1 n1 A2 n2 vs) {k n c : Nat} {A : Option Addr} {l : List ByteArray} (hv : vs[k]? = some (.slice A n c)) (hl : g.ws[k]? = some l) :
    ∃ b o, A2 = some ⟨b, o, none⟩ ∧ w.cell? ⟨b, o + k, none⟩ = some (.slice A n c) ∧ n ≤ maxLen ∧ Reads w B 1 A n (sv l) := by
  obtain ⟨A', n', c', hv', hn, hr⟩ := h.words.at_ (wv_get hl)
  rw [hv] at hv'
  cases hv'
  obtain ⟨b, o, e, hc⟩ := h.rows.val_at hv
  exact ⟨b, o, e, hc, hn, hr⟩
theorem GrIn.row_is (h : GrIn w B g A1 n1 A2 n2 vs) {k : Nat} (hk : k < n2) : ∃ A n c l, Hid (vs[k]? = some (.slice A n c)) ∧ Hid (g.ws[k]? = some l) := by
  have hl := h.len2
  have hx : g.ws[k]? = some (g.ws[k]'(by omega)) := List.getElem?_eq_getElem (by omega)
  obtain ⟨A, n, c, hv, _, _⟩ := h.words.at_ (wv_get hx)
  exact ⟨A, n, c, _, hv, hx⟩
theorem GrIn.new (h : GrIn w w.heap.size g A1 n1 A2 n2 vs) (hB : Below w.heap.size w w') : GrIn w' w'.heap.size g A1 n1 A2 n2 vs := (h.below hB).more hB.size
theorem grIn_no (w : World) (B : Nat) : GrIn w B noG none 0 none 0 [] := ⟨Reads.none_, Reads.none_, ⟨rfl, fun i v r h => by simp at h⟩, by simp [maxLen], by simp [maxLen]⟩
end

/-- A graph in its cells. -/
def GAt (w : World) (b : Nat) (m : Int) (A1 : Option Addr) (n1 c1 : Nat) (A2 : Option Addr) (n2 c2 : Nat) : Prop := w.heap[b]? = some (.cells #[.int .i64 m, .slice A1 n1 c1, .slice A2 n2 c2] 77 (0, 0))
section
variable {w w' : World} {b n1 c1 n2 c2 d e : Nat} {m : Int} {A1 A2 A3 : Option Addr}
theorem GAt.new (w : World) (m : Int) (A1 : Option Addr) (n1 c1 : Nat) (A2 : Option Addr) (n2 c2 : Nat) : GAt (w.alloc (.cells #[.int .i64 m, .slice A1 n1 c1, .slice A2 n2 c2] 77)) w.heap.size m A1 n1 c1 A2 n2 c2 := Array.getElem?_push_size
theorem GAt.cells (h : GAt w b m A1 n1 c1 A2 n2 c2) : w.cell? ⟨b, 0, none⟩ = some (.int .i64 m) ∧ w.cell? ⟨b, 1, none⟩ = some (.slice A1 n1 c1) ∧ w.cell? ⟨b, 2, none⟩ = some (.slice A2 n2 c2) := by
  unfold GAt at h
  refine ⟨?_, ?_, ?_⟩ <;> · rw [Lib.cell_of_heap h]; rfl
theorem GAt.frozen (h : GAt w b m A1 n1 c1 A2 n2 c2) (k : Nat) : w.frozen? ⟨b, k, none⟩ = false := Lib.frozen_of_heap h k
theorem GAt.lt (h : GAt w b m A1 n1 c1 A2 n2 c2) : b < w.heap.size := (Array.getElem?_eq_some_iff.1 h).1
theorem GAt.below {B : Nat} (h : GAt w b m A1 n1 c1 A2 n2 c2) (hB : Below B w w') (hb : b < B) : GAt w' b m A1 n1 c1 A2 n2 c2 := (hB.block b hb).trans h
theorem GAt.grown {k : Option Nat} (h : GAt w b m A1 n1 c1 A2 n2 c2) (hg : w.grownBy w' k) (hne : some b ≠ k) : GAt w' b m A1 n1 c1 A2 n2 c2 := (hg.block b h.lt hne).trans h
theorem GAt.drew (h : GAt w b m A1 n1 c1 A2 n2 c2) : GAt w.drew b m A1 n1 c1 A2 n2 c2 := h
theorem GAt.set0 (h : GAt w b m A1 n1 c1 A2 n2 c2) (x : Int) : GAt (w.setCell ⟨b, 0, none⟩ (.int .i64 x)) b x A1 n1 c1 A2 n2 c2 := by
  have := heap_setCell_same w b 0 _ _ (.int .i64 x) h
  unfold GAt; simpa using this
theorem GAt.set1 (h : GAt w b m A1 n1 c1 A2 n2 c2) : GAt (w.setCell ⟨b, 1, none⟩ (.slice A3 d e)) b m A3 d e A2 n2 c2 := by
  have := heap_setCell_same w b 1 _ _ (.slice A3 d e) h
  unfold GAt; simpa using this
theorem GAt.set2 (h : GAt w b m A1 n1 c1 A2 n2 c2) : GAt (w.setCell ⟨b, 2, none⟩ (.slice A3 d e)) b m A1 n1 c1 A3 d e := by
  have := heap_setCell_same w b 2 _ _ (.slice A3 d e) h
  unfold GAt; simpa using this
end
end Go.Proofs.YtichoidkemeibaaGreat
