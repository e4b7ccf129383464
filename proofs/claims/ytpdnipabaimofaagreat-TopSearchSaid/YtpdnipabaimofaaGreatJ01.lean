/-
  Words for memory: a slice value that reads as a list of cells; how it is kept. (First part turned from the guide's words for memory.)
  Rows of the call's own: what an append, a copy leaves, in the form that the walks take.
  The rows' element types: numbers and messages.
  Maps from numbers, as they are read: plain laws; the look-up, the step of a range and the store with the shapes written out.
  cmp.isNaN of numbers: the walk.
  Plain laws of chapter 16: messages combined. No program in sight.
  cmp.Compare, cmp.Or and the order of Combine's sort: the walks.
  The order of Combine's sort.
-/
import Derived.Test.YtpdnipabaimofaaGreatProg
import Derived.WalkKit
import Derived.Lib.Hide
import Derived.Laws.OwnMore
import Derived.Deep.AppendLies
import Derived.Deep.Draws
import Derived.Maps.AppendAt
import Derived.RegionTactic
import Derived.Laws.CopyOwn
import Derived.OwnWalk
import Derived.Handy
import Derived.BigQuiet
import Derived.WalkLawsBesides
import Derived.WalkSpells
import Derived.Maps.RangeWalk
import Derived.Maps.OwnSet
import Derived.Maps.Views
import Derived.Shelf.SlSortCmp.WholeK
import Derived.Shelf.RegionOpen
import Derived.ChangeAlike
import Derived.BigRegion
import Derived.StillTailTactics
namespace Go.Proofs.YtpdnipabaimofaaGreat
open Go.RowKit

theorem ret_int {k : IntKind} {a b : Int} (h : a = b) : Ending.returned (.int k a) = .returned (.int k b) := by rw [h]
theorem ret_bool {a b : Bool} (h : a = b) : Ending.returned (.bool a) = .returned (.bool b) := by rw [h]
theorem ret_val {a b : Value} (h : a = b) : Ending.returned a = .returned b := by rw [h]
theorem ret_int2 {k : IntKind} {a b : Int} {v : Value} (h : a = b) : Ending.returned (.tuple #[.int k a, v]) = .returned (.tuple #[.int k b, v]) := by rw [h]

theorem below_drewN {B : Nat} {a w : World} (h : Below B a w) (n : Nat) : Below B a (w.drewN n) := ⟨h.os, h.tape, h.output, h.size, h.block⟩

theorem only_refl (a : World) (row : Option Nat) : a.grownBy a row := ⟨rfl, rfl, rfl, Nat.le_refl _, fun _ _ _ => rfl⟩
theorem only_drewN {a w : World} {row : Option Nat} (h : a.grownBy w row) (n : Nat) : a.grownBy (w.drewN n) row := ⟨h.os, h.tape, h.output, h.size, h.block⟩
theorem only_drew {a w : World} {row : Option Nat} (h : a.grownBy w row) : a.grownBy w.drew row := ⟨h.os, h.tape, h.output, h.size, h.block⟩
theorem only_alloc {a w : World} {row : Option Nat} (h : a.grownBy w row) (o : Obj) : a.grownBy (w.alloc o) row :=
  ⟨h.os, h.tape, h.output, Nat.le_trans h.size (by simp), fun i hi hne => (Below.heap_alloc w o i (Nat.lt_of_lt_of_le hi h.size)).trans (h.block i hi hne)⟩
theorem only_setCell {a w : World} {g : Nat} (h : a.grownBy w (some g)) {p : Addr} (hp : p.block = g ∨ a.heap.size ≤ p.block) (u : Value) : a.grownBy (w.setCell p u) (some g) :=
  ⟨h.os, h.tape, h.output, by simpa [World.setCell] using h.size, fun i hi hne => (Below.heap_setCell w p u i (by
    rintro rfl
    rcases hp with hp | hp
    · exact hne (by rw [hp])
    · omega)).trans (h.block i hi hne)⟩
theorem only_of_below {a w : World} (h : Below a.heap.size a w) (row : Option Nat) : a.grownBy w row := ⟨h.os, h.tape, h.output, h.size, fun i hi _ => h.block i hi⟩
theorem only_grown {a w w' : World} {row row' : Option Nat} (h : a.grownBy w row) (k : w.grownBy w' row') (hr : ∀ g, row' = some g → a.heap.size ≤ g) : a.grownBy w' row :=
  ⟨k.os.trans h.os, k.tape.trans h.tape, k.output.trans h.output, Nat.le_trans h.size k.size, fun i hi hne => (k.block i (Nat.lt_of_lt_of_le hi h.size) (fun e => by have := hr i e.symm; omega)).trans (h.block i hi hne)⟩
theorem only_trans_below {a w w' : World} {row : Option Nat} (h : a.grownBy w row) (k : Below a.heap.size w w') : a.grownBy w' row :=
  ⟨k.os.trans h.os, k.tape.trans h.tape, k.output.trans h.output, Nat.le_trans h.size k.size, fun i hi hne => (k.block i hi).trans (h.block i hi hne)⟩
theorem only_cell {a w : World} {row : Option Nat} (h : a.grownBy w row) {p : Addr} (hp : p.block < a.heap.size) (hne : some p.block ≠ row) : w.cell? p = a.cell? p := World.cell?_of_block (h.block p.block hp hne)
theorem only_frozen {a w : World} {row : Option Nat} (h : a.grownBy w row) {p : Addr} (hp : p.block < a.heap.size) (hne : some p.block ≠ row) : w.frozen? p = a.frozen? p := World.frozen?_of_block (h.block p.block hp hne)
theorem only_below {a w : World} {g : Nat} (h : a.grownBy w (some g)) {B : Nat} (h1 : B ≤ g) (h2 : B ≤ a.heap.size) : Below B a w :=
  ⟨h.os, h.tape, h.output, h.size, fun k hk => h.block k (by omega) (fun e => by injection e; omega)⟩
theorem block_lt_of_cell {w : World} {p : Addr} {v : Value} (h : w.cell? p = some v) : p.block < w.heap.size := World.block_lt_of_cell? w p h

/-- A slice's length, for a loop's measure. -/
def slLen : Value → Nat | .slice _ k _ => k | _ => 0

/-- Integers as cells. -/
def iv (l : List Int) : List Value := l.map (Value.int .i64)

theorem iv_get {l : List Int} {k : Nat} {u : Value} (h : (iv l)[k]? = some u) : ∃ x, l[k]? = some x ∧ u = .int .i64 x := by
  unfold iv at h
  rw [List.getElem?_map] at h
  cases hl : l[k]? with
  | none => rw [hl] at h; cases h
  | some x => rw [hl] at h; exact ⟨x, rfl, by cases h; rfl⟩
theorem iv_nil : iv [] = [] := rfl
theorem iv_append (l m : List Int) : iv (l ++ m) = iv l ++ iv m := by simp [iv]
theorem iv_len (l : List Int) : (iv l).length = l.length := by simp [iv]
theorem one_int (k : IntKind) (x : Int) : ∀ u ∈ (#[Value.int k x] : Array Value).toList, u.oneCell' = true := by intro u hu; simp at hu; subst hu; rfl
theorem one_str (x : ByteArray) : ∀ u ∈ (#[Value.string x] : Array Value).toList, u.oneCell' = true := by intro u hu; simp at hu; subst hu; rfl
theorem one_slice (A : Option Addr) (n c : Nat) : ∀ u ∈ (#[Value.slice A n c] : Array Value).toList, u.oneCell' = true := by intro u hu; simp at hu; subst hu; rfl
theorem iv_one (l : List Int) : ∀ u ∈ iv l, u.oneCell' = true := ints_oneCell _ _

/-- Rows of things of several cells each. -/
theorem flat_len {α β : Type} (f : α → List β) (z : Nat) (hf : ∀ a, (f a).length = z) : ∀ l : List α, (l.flatMap f).length = l.length * z
  | [] => by simp
  | a :: l => by rw [List.flatMap_cons, List.length_append, hf, flat_len f z hf l, List.length_cons, Nat.add_mul]; omega
theorem flat_drop {α β : Type} (f : α → List β) (z : Nat) (hf : ∀ a, (f a).length = z) : ∀ (l : List α) (q : Nat), (l.flatMap f).drop (q * z) = (l.drop q).flatMap f
  | l, 0 => by simp
  | [], q + 1 => by simp
  | a :: l, q + 1 => by
    rw [List.flatMap_cons, List.drop_succ_cons, ← flat_drop f z hf l q, show (q + 1) * z = (f a).length + q * z by rw [hf, Nat.add_mul]; omega, List.drop_length_add_append]
theorem flat_take {α β : Type} (f : α → List β) (z : Nat) (hf : ∀ a, (f a).length = z) : ∀ (l : List α) (q : Nat), (l.flatMap f).take (q * z) = (l.take q).flatMap f
  | l, 0 => by simp
  | [], q + 1 => by simp
  | a :: l, q + 1 => by
    rw [List.flatMap_cons, List.take_succ_cons, List.flatMap_cons, ← flat_take f z hf l q, show (q + 1) * z = (f a).length + q * z by rw [hf, Nat.add_mul]; omega, List.take_length_add_append]
theorem flat_get {α β : Type} (f : α → List β) (z : Nat) (hf : ∀ a, (f a).length = z) (l : List α) (q r : Nat) (x : α) (hx : l[q]? = some x) (hr : r < z) : (l.flatMap f)[q * z + r]? = (f x)[r]? := by
  have h1 : (l.flatMap f)[q * z + r]? = ((l.flatMap f).drop (q * z))[r]? := by rw [List.getElem?_drop]
  obtain ⟨hq, he⟩ := List.getElem?_eq_some_iff.1 hx
  rw [h1, flat_drop f z hf, List.drop_eq_getElem_cons hq, he, List.flatMap_cons, List.getElem?_append_left (by rw [hf]; exact hr)]
theorem flat_erase {α β : Type} (f : α → List β) (z : Nat) (hf : ∀ a, (f a).length = z) (l : List α) (q : Nat) : (l.flatMap f).take (q * z) ++ (l.flatMap f).drop ((q + 1) * z) = (l.eraseIdx q).flatMap f := by
  rw [flat_take f z hf, flat_drop f z hf, List.eraseIdx_eq_take_drop_succ, List.flatMap_append]

/-- A message. -/
structure Msg where
  slot : Int
  dir : Int
  v : Int
  d : Int

theorem Msg.eq_iff (a b : Msg) : a = b ↔ a.slot = b.slot ∧ a.dir = b.dir ∧ a.v = b.v ∧ a.d = b.d := by
  cases a; cases b; simp
instance : DecidableEq Msg := fun a b => decidable_of_iff _ (Msg.eq_iff a b).symm

def mc (m : Msg) : List Value := [.int .i64 m.slot, .int .i64 m.dir, .int .i64 m.v, .int .i64 m.d]
def mv (l : List Msg) : List Value := l.flatMap mc
theorem mc_len (m : Msg) : (mc m).length = 4 := rfl
theorem mv_len (l : List Msg) : (mv l).length = l.length * 4 := flat_len mc 4 mc_len l
theorem mv_append (l m : List Msg) : mv (l ++ m) = mv l ++ mv m := List.flatMap_append
theorem mc_one (m : Msg) : ∀ u ∈ mc m, u.oneCell' = true := by
  intro u hu
  simp only [mc, List.mem_cons, List.not_mem_nil, or_false] at hu
  rcases hu with rfl | rfl | rfl | rfl <;> rfl
theorem mv_one (l : List Msg) : ∀ u ∈ mv l, u.oneCell' = true := by
  intro u hu
  obtain ⟨m, _, hm⟩ := List.mem_flatMap.1 hu
  exact mc_one m u hm
theorem mv_erase (l : List Msg) (q : Nat) : (mv l).take (q * 4) ++ (mv l).drop ((q + 1) * 4) = mv (l.eraseIdx q) := flat_erase mc 4 mc_len l q

/-- A slice whose address is A and whose length is n reads as the cells xs, below block B. -/
def Reads (w : World) (B size : Nat) (A : Option Addr) (n : Nat) (xs : List Value) : Prop :=
  xs.length = n * size ∧ (0 < n → ∃ b o, A = some ⟨b, o, none⟩ ∧ b < B ∧ ∀ j u, xs[j]? = some u → w.cell? ⟨b, o + j, none⟩ = some u)

section
variable {w w' : World} {B B' size n : Nat} {A : Option Addr} {xs : List Value}
theorem Reads.none_ : Reads w B size A 0 [] := ⟨by simp, fun h => absurd h (by omega)⟩
theorem Reads.keep (h : Reads w B size A n xs) (hk : ∀ p : Addr, p.block < B → w'.cell? p = w.cell? p) : Reads w' B size A n xs :=
  ⟨h.1, fun hn => by
    obtain ⟨b, o, e, hb, hc⟩ := h.2 hn
    exact ⟨b, o, e, hb, fun j u hu => (hk _ hb).trans (hc j u hu)⟩⟩
theorem Reads.more (h : Reads w B size A n xs) (hB : B ≤ B') : Reads w B' size A n xs :=
  ⟨h.1, fun hn => by
    obtain ⟨b, o, e, hb, hc⟩ := h.2 hn
    exact ⟨b, o, e, by omega, hc⟩⟩
theorem Reads.below (h : Reads w B size A n xs) (hb : Below B w w') : Reads w' B size A n xs := h.keep fun _ hp => hb.cell hp
/-- What a cut 's[k:]' reads as: where something is left its address is known. -/
theorem Reads.cut (h : Reads w B size A n xs) {k : Nat} {A' : Option Addr} (hk : k ≤ n) (hA : k < n → ∀ b o, A = some ⟨b, o, none⟩ → A' = some ⟨b, o + k * size, none⟩) :
    Reads w B size A' (n - k) (xs.drop (k * size)) := by
  refine ⟨by rw [List.length_drop, h.1, Nat.sub_mul], fun hn => ?_⟩
  obtain ⟨b, o, rfl, hb, hcell⟩ := h.2 (by omega)
  refine ⟨b, o + k * size, hA (by omega) b o rfl, hb, fun j u hu => ?_⟩
  rw [Nat.add_assoc]
  exact hcell _ u (by rw [← hu, List.getElem?_drop])
theorem Reads.first (h : Reads w B size A n xs) {k : Nat} (hk : k ≤ n) : Reads w B size A k (xs.take (k * size)) := by
  refine ⟨by rw [List.length_take, h.1]; exact Nat.min_eq_left (Nat.mul_le_mul_right _ hk), fun hn => ?_⟩
  obtain ⟨b, o, e, hb, hcell⟩ := h.2 (by omega)
  refine ⟨b, o, e, hb, fun j u hu => hcell j u ?_⟩
  rw [List.getElem?_take] at hu
  split at hu
  · exact hu
  · cases hu
theorem Reads.of_own {base : Nat} {e : TypeId} {c : Nat} (h : w.ownsRow base e size (.slice A n c) n xs) : Reads w w.heap.size size A n xs := by
  refine ⟨h.1, fun hn => ?_⟩
  obtain ⟨g, cap, hv, _, hlt⟩ := h.form hn
  have hA : A = some ⟨g, 0, none⟩ := by injection hv
  subst hA
  refine ⟨g, 0, rfl, hlt, fun j u hu => ?_⟩
  have := h.cells (g := g) rfl j u hu
  rwa [Addr.add_lit] at this
theorem reads_lit (w : World) (zs : List Int) (e : TypeId) : Reads (w.alloc (.cells (iv zs).toArray e)) (w.heap.size + 1) 1 (some ⟨w.heap.size, 0, none⟩) zs.length (iv zs) := by
  refine ⟨by simp [iv], fun _ => ⟨_, _, rfl, by omega, fun j u hu => ?_⟩⟩
  rw [cell_of_row _ _ _ (iv zs).toArray e (0, 0) (heap_alloc_new w _)]
  simpa using hu
theorem Reads.grown_ (h : Reads w B size A n xs) {row : Option Nat} (hg : w.grownBy w' row) (hB : B ≤ w.heap.size) (hr : 0 < n → ∀ a, A = some a → some a.block ≠ row) : Reads w' B size A n xs :=
  ⟨h.1, fun hn => by
    obtain ⟨b, o, e, hb, hc⟩ := h.2 hn
    exact ⟨b, o, e, hb, fun j u hu => (World.cell?_of_block (a := ⟨b, o + j, none⟩) (hg.block b (by omega) (hr hn _ e))).trans (hc j u hu)⟩⟩
theorem Reads.lt_ (h : Reads w B size A n xs) (hn : 0 < n) : ∀ a, A = some a → a.block < B := by
  obtain ⟨b, o, e, hb, _⟩ := h.2 hn
  intro a ha
  rw [e] at ha
  cases ha
  exact hb
theorem Reads.int_at {xs : List Int} {k : Nat} (h : Reads w B 1 A n (iv xs)) (hk : k < n) :
    ∃ b o x, A = some ⟨b, o, none⟩ ∧ Hid (xs[k]? = some x) ∧ w.cell? ⟨b, o + k, none⟩ = some (.int .i64 x) := by
  obtain ⟨b, o, e, _, hc⟩ := h.2 (by omega)
  have hl : xs.length = n := by have := h.1; simpa [iv] using this
  have hx : xs[k]? = some (xs[k]'(by omega)) := List.getElem?_eq_getElem (by omega)
  exact ⟨b, o, _, e, hx, hc k _ (by simp [iv, hx])⟩
theorem Reads.int_len {xs : List Int} (h : Reads w B 1 A n (iv xs)) : xs.length = n := by
  have := h.1; simpa [iv] using this
theorem Reads.mail_len {xs : List Msg} (h : Reads w B 4 A n (mv xs)) : xs.length = n := by
  have := h.1; rw [mv_len] at this; omega
theorem Reads.mail_at {xs : List Msg} {k : Nat} (h : Reads w B 4 A n (mv xs)) (hk : k < n) :
    ∃ b o m, A = some ⟨b, o, none⟩ ∧ Hid (xs[k]? = some m) ∧ w.cell? ⟨b, o + k * 4, none⟩ = some (.int .i64 m.slot) ∧ w.cell? ⟨b, o + k * 4 + 1, none⟩ = some (.int .i64 m.dir) ∧ w.cell? ⟨b, o + k * 4 + 2, none⟩ = some (.int .i64 m.v) ∧ w.cell? ⟨b, o + k * 4 + 3, none⟩ = some (.int .i64 m.d) := by
  have hl := h.mail_len
  obtain ⟨b, o, e, _, hc⟩ := h.2 (by omega)
  have hx : xs[k]? = some (xs[k]'(by omega)) := List.getElem?_eq_getElem (by omega)
  have hf := fun r hr => flat_get mc 4 mc_len xs k r _ hx hr
  exact ⟨b, o, _, e, hx, hc _ _ (hf 0 (by omega)), by rw [Nat.add_assoc]; exact hc _ _ (hf 1 (by omega)), by rw [Nat.add_assoc]; exact hc _ _ (hf 2 (by omega)), by rw [Nat.add_assoc]; exact hc _ _ (hf 3 (by omega))⟩
end

/-- A slice of integers that came in (as the shells of the laws have it). -/
def IsRow (k : IntKind) (w : World) (a : Option Addr) (len cap : Nat) (zs : List Int) : Prop :=
  (a = none ∧ len = 0 ∧ cap = 0 ∧ zs = []) ∨
  ∃ x, a = some x ∧ len ≤ cap ∧ cap ≤ maxLen ∧ zs.length = cap ∧ (∀ i, i < zs.length → w.cell? (x.add i) = some (.int k (zs.getD i 0))) ∧ ∀ n ∈ zs, (Lit.int k n).wf = true

theorem addr_of_cell {w : World} {a : Addr} {v : Value} (h : w.cell? a = some v) : ∃ b o, a = ⟨b, o, none⟩ := by
  obtain ⟨b, o, spot⟩ := a
  have hspot : spot = none := World.cell?_spot h
  exact ⟨b, o, by rw [hspot]⟩

theorem IsRow.reads {w : World} {a : Option Addr} {len cap : Nat} {zs : List Int} (h : IsRow .i64 w a len cap zs) : Reads w w.heap.size 1 a len (iv (zs.take len)) ∧ len ≤ maxLen := by
  rcases h with ⟨rfl, rfl, rfl, rfl⟩ | ⟨x, rfl, h1, h2, h3, h4, _⟩
  · exact ⟨Reads.none_, by simp [maxLen]⟩
  · refine ⟨⟨by rw [iv_len, List.length_take]; omega, fun hn => ?_⟩, by omega⟩
    have h0 := h4 0 (by omega)
    rw [show x.add 0 = x by simp [Addr.add]] at h0
    obtain ⟨b, o, rfl⟩ := addr_of_cell h0
    refine ⟨b, o, rfl, World.block_lt_of_cell? w _ h0, fun j u hu => ?_⟩
    obtain ⟨z, hz, rfl⟩ := iv_get hu
    rw [List.getElem?_take] at hz
    split at hz
    · have h5 := h4 j (by omega)
      rw [Addr.add_lit] at h5
      rw [h5, List.getD_eq_getElem?_getD, hz]; rfl
    · cases hz
end Go.Proofs.YtpdnipabaimofaaGreat

namespace Go.Proofs.YtpdnipabaimofaaGreat
open Go.RowKit

/-- Slice type t has elements of type e: so many cells, so many bytes. -/
structure Elem (P : Program) (t e : TypeId) (size bytes : Nat) : Prop where
  under : P.underlying t = some (.slice e)
  info : ∃ i z, P.info? e = some i ∧ i.zero = some z ∧ i.size = size ∧ i.bytes = bytes ∧ z.cells.size = size
  pos : 0 < size

theorem Elem.mk_ {P : Program} {t e : TypeId} {z : Value} {size bytes : Nat} (h1 : P.underlying t = some (.slice e)) (h2 : (P.info? e).map (fun i => (i.zero, i.size, i.bytes)) = some (some z, size, bytes))
    (h3 : z.cells.size = size) (h4 : 0 < size) : Elem P t e size bytes := by
  obtain ⟨i, a, b, c, d⟩ := info_parts h2
  exact ⟨h1, ⟨i, z, a, b, c, d, h3⟩, h4⟩

/-- Where two slices lie in blocks of their own. -/
def Apart (A A' : Option Addr) : Prop := ∀ a b, A = some a → A' = some b → a.block ≠ b.block

/-- What an append leaves: nothing but the row itself has turned, or a new row was made. -/
structure Pushed (w w' : World) (A A' : Option Addr) : Prop where
  grown : w.grownBy w' (A.map (·.block))
  at_ : ∀ a, A' = some a → (∃ b, A = some b ∧ b.block = a.block) ∨ w.heap.size ≤ a.block

section
variable {w w' : World} {B base e size n c m c' : Nat} {A A' C : Option Addr} {xs ys : List Value}

theorem own_form {v : Value} (h : w.ownsRow base e size v n xs) : ∃ A c, v = .slice A n c ∧ n ≤ c ∧ c ≤ maxLen ∧ ∀ a, A = some a → base ≤ a.block ∧ a.block < w.heap.size := by
  rcases h.2 with ⟨rfl, rfl⟩ | ⟨g, cap, cur, rfl, hb, hg, h1, h2, _⟩
  · exact ⟨none, 0, rfl, Nat.le_refl _, by simp [maxLen], fun a h => by cases h⟩
  · exact ⟨_, cap, rfl, h1, h2, fun a h => by cases h; exact ⟨hb, (Array.getElem?_eq_some_iff.1 hg).1⟩⟩

theorem own_cap (h : w.ownsRow base e size (.slice A n c) n xs) : n ≤ c ∧ c ≤ maxLen := by
  obtain ⟨A1, c1, h1, h2, h3, _⟩ := own_form h
  cases h1
  exact ⟨h2, h3⟩
theorem own_lt (h : w.ownsRow base e size (.slice A n c) n xs) : ∀ a, A = some a → base ≤ a.block ∧ a.block < w.heap.size := by
  obtain ⟨A1, c1, h1, _, _, h4⟩ := own_form h
  cases h1
  exact h4
theorem own_block : (Value.slice A n c).ownBlock = A.map (·.block) := by cases A <;> rfl

theorem own_len (h : w.ownsRow base e size (.slice A n c) n xs) : xs.length = n * size := h.1

theorem own_more (h : w.ownsRow B e size (.slice A n c) n xs) (hb : base ≤ B) : w.ownsRow base e size (.slice A n c) n xs := by
  refine ⟨h.1, ?_⟩
  rcases h.2 with h2 | ⟨g, cap, cur, h1, h2, h3⟩
  · exact .inl h2
  · exact .inr ⟨g, cap, cur, h1, Nat.le_trans hb h2, h3⟩

/-- What lies apart from the row that an append wrote is kept. -/
theorem Pushed.keep {e' size' : Nat} (p : Pushed w w' A A') (h : w.ownsRow base e' size' (.slice C m c) m ys) (ap : Apart C A) : w'.ownsRow base e' size' (.slice C m c) m ys := by
  refine h.kept p.grown ?_
  rw [own_block]
  cases hC : C with
  | none => exact .inl rfl
  | some a =>
    refine .inr ?_
    cases hA : A with
    | none => simp
    | some b => simpa using ap a b hC hA

theorem Pushed.apart {e' size' : Nat} (p : Pushed w w' A A') (h : w.ownsRow base e' size' (.slice C m c) m ys) (ap : Apart C A) : Apart C A' := by
  intro a b ha hb
  rcases p.at_ b hb with ⟨d, hd, hdb⟩ | hge
  · rw [← hdb]; exact ap a d ha hd
  · have := (own_lt h a ha).2; omega

/-- A reader below B stays apart. -/
theorem Pushed.below (p : Pushed w w' A A') (h : w.ownsRow base e size (.slice A n c) n xs) {W : World} (hW : Below B W w) (hb : B ≤ base) (hs : B ≤ w.heap.size) : Below B W w' := by
  refine hW.grown p.grown hs ?_
  intro k hk
  cases hA : A with
  | none => rw [hA] at hk; simp at hk
  | some a =>
    rw [hA] at hk
    simp at hk
    have := (own_lt h a hA).1
    omega

theorem Pushed.below0 (p : Pushed w w' none A') {W : World} (hW : Below B W w) (hs : B ≤ w.heap.size) : Below B W w' :=
  hW.grown p.grown hs (fun k hk => by simp at hk)

theorem Pushed.only {a : World} {row : Option Nat} (p : Pushed w w' A A') (h : a.grownBy w row) (hA : ∀ x, A = some x → a.heap.size ≤ x.block) : a.grownBy w' row :=
  only_grown h p.grown (fun g hg => by
    cases hAA : A with
    | none => rw [hAA] at hg; simp at hg
    | some x => rw [hAA] at hg; simp at hg; have := hA x hAA; omega)

theorem Pushed.larger (p : Pushed w w' A A') : w.heap.size ≤ w'.heap.size := p.grown.size

theorem Apart.none_right : Apart A none := fun _ _ _ h => by cases h
theorem Apart.none_left : Apart none A := fun _ _ h => by cases h
theorem Apart.symm (h : Apart A A') : Apart A' A := fun a b ha hb e => h b a hb ha e.symm
/-- A row from B on lies apart from one whose blocks are below B. -/
theorem apart_of_lt {e' size' : Nat} (h : w.ownsRow base e size (.slice A n c) n xs) (h' : w'.ownsRow B e' size' (.slice A' m c') m ys) (hlt : w.heap.size ≤ B) : Apart A A' := fun a b ha hb => by
  have := (own_lt h a ha).2
  have := (own_lt h' b hb).1
  omega

theorem own_reads (h : w.ownsRow base e size (.slice A n c) n xs) : Reads w w.heap.size size A n xs := Reads.of_own h

theorem own_below (h : w.ownsRow base e size (.slice A n c) n xs) (hB : Below w.heap.size w w') : w'.ownsRow base e size (.slice A n c) n xs :=
  h.kept (row := none) ⟨hB.os, hB.tape, hB.output, hB.size, fun k hk _ => hB.block k hk⟩ (by cases h : (Value.slice A n c).ownBlock <;> simp)

theorem own_int_at {g k : Nat} {zs : List Int} (h : w.ownsRow base e 1 (.slice (some ⟨g, 0, none⟩) n c) n (iv zs)) (hk : k < n) : ∃ x, Hid (zs[k]? = some x) ∧ w.cell? ⟨g, k, none⟩ = some (.int .i64 x) := by
  have hl : zs.length = n := by have := h.1; simpa [iv] using this
  refine ⟨zs[k]'(by omega), List.getElem?_eq_getElem (by omega), ?_⟩
  rw [h.cellAt k (by omega)]
  simp [iv, show k < zs.length by omega]
theorem own_mail_at {g k : Nat} {zs : List Msg} (h : w.ownsRow base e 4 (.slice (some ⟨g, 0, none⟩) n c) n (mv zs)) (hk : k < n) :
    ∃ m, Hid (zs[k]? = some m) ∧ w.cell? ⟨g, k * 4, none⟩ = some (.int .i64 m.slot) ∧ w.cell? ⟨g, k * 4 + 1, none⟩ = some (.int .i64 m.dir) ∧ w.cell? ⟨g, k * 4 + 2, none⟩ = some (.int .i64 m.v) ∧ w.cell? ⟨g, k * 4 + 3, none⟩ = some (.int .i64 m.d) := by
  have hl : zs.length = n := by have := h.1; rw [mv_len] at this; omega
  have hx : zs[k]? = some (zs[k]'(by omega)) := List.getElem?_eq_getElem (by omega)
  have hf := fun r hr => flat_get mc 4 mc_len zs k r _ hx hr
  exact ⟨_, hx, by rw [h.cellAt _ (by omega)]; exact hf 0 (by omega), by rw [h.cellAt _ (by omega)]; exact hf 1 (by omega), by rw [h.cellAt _ (by omega)]; exact hf 2 (by omega), by rw [h.cellAt _ (by omega)]; exact hf 3 (by omega)⟩
theorem own_cut {g k : Nat} {A' : Option Addr} (h : w.ownsRow base e size (.slice (some ⟨g, 0, none⟩) n c) n xs) (hk : k ≤ n) (hA : k < n → A' = some ⟨g, k * size, none⟩) :
    Reads w w.heap.size size A' (n - k) (xs.drop (k * size)) := by
  refine ⟨by rw [List.length_drop, h.1, Nat.sub_mul], fun hn => ?_⟩
  refine ⟨_, _, hA (by omega), (own_lt h _ rfl).2, fun j u hu => ?_⟩
  rw [List.getElem?_drop] at hu
  rw [h.cellAt _ (by
    have := (List.getElem?_eq_some_iff.1 hu).1
    rw [h.1] at this; exact this)]
  exact hu
theorem own_shorter {k : Nat} (h : w.ownsRow base e size (.slice A n c) n xs) (hk : k ≤ n) (hA : A ≠ none) : w.ownsRow base e size (.slice A k c) k (xs.take (k * size)) := by
  refine ⟨by rw [List.length_take, h.1]; exact Nat.min_eq_left (Nat.mul_le_mul_right _ hk), ?_⟩
  rcases h.2 with ⟨hv, _⟩ | ⟨g, cap, cur, hv, h2, h3, h4, h5, h6, h7⟩
  · cases hv; exact absurd rfl hA
  · cases hv
    refine .inr ⟨g, c, cur, rfl, h2, h3, by omega, h5, h6, ?_⟩
    rw [← h7, List.take_take, Nat.min_eq_left (Nat.mul_le_mul_right _ hk)]
theorem own_only {row : Option Nat} (h : w.ownsRow base e size (.slice A n c) n xs) (hg : w.grownBy w' row) (hA : ∀ a, A = some a → some a.block ≠ row) : w'.ownsRow base e size (.slice A n c) n xs := by
  refine h.kept hg ?_
  rw [own_block]
  cases hAA : A with
  | none => exact .inl rfl
  | some a => exact .inr (by simpa using hA a hAA)
theorem own_nil : w.ownsRow base e size (.slice none 0 0) 0 [] := World.ownsRow_nil _ _ _ _
end

section
variable {P : Program} {w : World} {ops : Array Oper} {rest : List Oper} {o : Oper} {a : Act} {Q : Exit → Act → World → Prop}

/-- 'append(out, xs...)': xs whatever reads as cells. -/
theorem wp_cat {K : Act → World → Prop} {t e : TypeId} {size bytes : Nat} (E : Elem P t e size bytes) (s x : Operand)
    (ho : o.op = .call { callee := .builtin .append, args := #[s, x], argTypes := #[t, t] })
    {base n c : Nat} {A : Option Addr} {xs : List Value} (hown : w.ownsRow base e size (.slice A n c) n xs) (hs : a.eval s = .slice A n c)
    {B m d : Nat} {C : Option Addr} {news : List Value} (hr : Reads w B size C m news) (hx : a.eval x = .slice C m d) (h1 : ∀ u ∈ news, u.oneCell' = true)
    (h63 : n + m ≤ maxLen) (hbytes : (n + m) * bytes ≤ 140737488355328) (hbase : base ≤ w.heap.size)
    (h : ∀ A' c' w', w'.ownsRow base e size (.slice A' (n + m) c') (n + m) (xs ++ news) → Pushed w w' A A' → K (a.put o.dst (.slice A' (n + m) c')) w') : o.wp P a w K Q := by
  obtain ⟨i, z, hi, hz, hsize, hby, hzs⟩ := E.info
  have key : ∃ v' w', (Builtin.append_ #[t, t] o.type #[.slice A n c, .slice C m d]).run P w = .ok v' w' ∧ w'.ownsRow base e size v' (n + m) (xs ++ news) ∧ w.grownBy w' (Value.slice A n c).ownBlock ∧
      (v'.ownBlock = (Value.slice A n c).ownBlock ∨ v'.ownBlock = some w.heap.size) := by
    rcases C with _ | ad
    · have hm : m = 0 := by
        rcases Nat.eq_zero_or_pos m with h0 | h0
        · exact h0
        · obtain ⟨_, _, h, _⟩ := hr.2 h0
          cases h
      subst hm
      have hn : news = [] := List.eq_nil_of_length_eq_zero (by simpa using hr.1)
      subst hn
      refine ⟨.slice A n c, w, ?_, by simpa using hown, World.grownBy.refl w _, .inl rfl⟩
      rcases hown.2 with ⟨hv, hn⟩ | ⟨g, cap, cur, hv, _, _, hnc, _⟩
      · cases hv
        simp [Builtin.append_, run_underlying E.under, sizeOf, typeInfo, hi, Builtin.lenOf, Builtin.firstCells]
      · cases hv
        simp [Builtin.append_, run_underlying E.under, sizeOf, typeInfo, hi, Builtin.lenOf, Builtin.firstCells, hnc, storeCells]
    · have hcells : ∀ j u, news[j]? = some u → w.cell? (ad.add j) = some u := by
        intro j u hu
        rcases Nat.eq_zero_or_pos m with h0 | h0
        · subst h0
          have hn : news = [] := List.eq_nil_of_length_eq_zero (by simpa using hr.1)
          subst hn
          simp at hu
        · obtain ⟨b, o', h, _, hc⟩ := hr.2 h0
          injection h with h
          subst h
          rw [Addr.add_lit]
          exact hc j u hu
      obtain ⟨v', w', hrun, h2, h3, _, h5⟩ := run_append_own_at (P := P) w base t o.type e i z size bytes E.under hi hz hsize hby hzs E.pos _ n xs hown ad m d news hr.1 hcells h1 h63 hbytes hbase
      exact ⟨v', w', hrun, h2, h3, h5⟩
  obtain ⟨v', w', hrun, h2, h3, h4⟩ := key
  obtain ⟨A', c', rfl, _, _, _⟩ := own_form h2
  unfold Oper.wp execOp
  simp only [ho, resolve, invoke, builtin, Sem.run_bind, Sem.run_pure, Result.andThen_ok, List.map_toArray, List.map_cons, List.map_nil, hs, hx, hrun]
  refine h A' c' w' h2 ⟨by rw [own_block] at h3; exact h3, fun b hb => ?_⟩
  rw [own_block, own_block, hb] at h4
  rcases h4 with h4 | h4
  · left
    cases hA : A with
    | none => rw [hA] at h4; simp at h4
    | some d => rw [hA] at h4; simp at h4; exact ⟨d, rfl, h4.symm⟩
  · right; simp at h4; omega


theorem wpList_cat {t e : TypeId} {size bytes : Nat} (E : Elem P t e size bytes) (hgd : o.guard = none) (s x : Operand)
    (ho : o.op = .call { callee := .builtin .append, args := #[s, x], argTypes := #[t, t] })
    {base n c : Nat} {A : Option Addr} {xs : List Value} (hown : w.ownsRow base e size (.slice A n c) n xs) (hs : a.eval s = .slice A n c)
    {B m d : Nat} {C : Option Addr} {news : List Value} (hr : Reads w B size C m news) (hx : a.eval x = .slice C m d) (h1 : ∀ u ∈ news, u.oneCell' = true)
    (h63 : n + m ≤ maxLen) (hbytes : (n + m) * bytes ≤ 140737488355328) (hbase : base ≤ w.heap.size)
    (h : ∀ A' c' w', w'.ownsRow base e size (.slice A' (n + m) c') (n + m) (xs ++ news) → Pushed w w' A A' → wpList P ops Q rest (a.put o.dst (.slice A' (n + m) c')) w') : wpList P ops Q (o :: rest) a w :=
  wpList_plain hgd fun _ hK => wp_cat E s x ho hown hs hr hx h1 h63 hbytes hbase fun A' c' w' h2 p => hK _ _ (h A' c' w' h2 p)

theorem step_cat {K : Act → World → Prop} {E' : Prop} {t e : TypeId} {size bytes : Nat} (E : Elem P t e size bytes) (hgd : o.guard = none) (s x : Operand)
    (ho : o.op = .call { callee := .builtin .append, args := #[s, x], argTypes := #[t, t] })
    {base n c : Nat} {A : Option Addr} {xs : List Value} (hown : w.ownsRow base e size (.slice A n c) n xs) (hs : a.eval s = .slice A n c)
    {B m d : Nat} {C : Option Addr} {news : List Value} (hr : Reads w B size C m news) (hx : a.eval x = .slice C m d) (h1 : ∀ u ∈ news, u.oneCell' = true)
    (h63 : n + m ≤ maxLen) (hbytes : (n + m) * bytes ≤ 140737488355328) (hbase : base ≤ w.heap.size)
    (h : ∀ A' c' w', w'.ownsRow base e size (.slice A' (n + m) c') (n + m) (xs ++ news) → Pushed w w' A A' → K (a.put o.dst (.slice A' (n + m) c')) w') :
    if Region.wanted o (yielded ops a.tmps) = true then Oper.wp P o a w K Q else E' := by
  have hw : Region.wanted o (yielded ops a.tmps) = true := by simp [Region.wanted, hgd]
  rw [if_pos hw]
  exact wp_cat E s x ho hown hs hr hx h1 h63 hbytes hbase h

/-- 'append(out, x)': x was laid in a block of its own. -/
theorem wp_push {K : Act → World → Prop} {t e : TypeId} {size bytes : Nat} (E : Elem P t e size bytes) (s x : Operand)
    (ho : o.op = .call { callee := .builtin .append, args := #[s, x], argTypes := #[t, t] })
    {base n c : Nat} {A : Option Addr} {xs : List Value} (hown : w.ownsRow base e size (.slice A n c) n xs) (hs : a.eval s = .slice A n c)
    (cs : Array Value) (hl : cs.size = size) (hx : a.eval x = .slice (some ⟨w.heap.size, 0, none⟩) 1 1) (h1 : ∀ u ∈ cs.toList, u.oneCell' = true)
    (h63 : n + 1 ≤ maxLen) (hbytes : (n + 1) * bytes ≤ 140737488355328) (hbase : base ≤ w.heap.size)
    (h : ∀ A' c' w', w'.ownsRow base e size (.slice A' (n + 1) c') (n + 1) (xs ++ cs.toList) → Pushed w w' A A' → K (a.put o.dst (.slice A' (n + 1) c')) w') : o.wp P a (w.alloc (.cells cs e)) K Q := by
  refine wp_cat E s x ho (hown.alloc _) hs (B := w.heap.size + 1) (C := some ⟨w.heap.size, 0, none⟩) (m := 1) (d := 1) (news := cs.toList) ?_ hx h1 h63 hbytes (by simp; omega) ?_
  · refine ⟨by simpa using hl, fun _ => ⟨_, _, rfl, by simp, fun j u hu => ?_⟩⟩
    rw [cell_of_row _ _ _ cs e (0, 0) (heap_alloc_new w _)]
    simpa using hu
  · intro A' c' w' h2 p
    refine h A' c' w' h2 ⟨⟨p.grown.os, p.grown.tape, p.grown.output, Nat.le_trans (by simp) p.grown.size, fun k hk hne => (p.grown.block k (by simp; omega) hne).trans (Below.heap_alloc w _ k hk)⟩, fun b hb => ?_⟩
    rcases p.at_ b hb with h3 | h3
    · exact .inl h3
    · simp at h3; right; omega

theorem wpList_push {t e : TypeId} {size bytes : Nat} (E : Elem P t e size bytes) (hgd : o.guard = none) (s x : Operand)
    (ho : o.op = .call { callee := .builtin .append, args := #[s, x], argTypes := #[t, t] })
    {base n c : Nat} {A : Option Addr} {xs : List Value} (hown : w.ownsRow base e size (.slice A n c) n xs) (hs : a.eval s = .slice A n c)
    (cs : Array Value) (hl : cs.size = size) (hx : a.eval x = .slice (some ⟨w.heap.size, 0, none⟩) 1 1) (h1 : ∀ u ∈ cs.toList, u.oneCell' = true)
    (h63 : n + 1 ≤ maxLen) (hbytes : (n + 1) * bytes ≤ 140737488355328) (hbase : base ≤ w.heap.size)
    (h : ∀ A' c' w', w'.ownsRow base e size (.slice A' (n + 1) c') (n + 1) (xs ++ cs.toList) → Pushed w w' A A' → wpList P ops Q rest (a.put o.dst (.slice A' (n + 1) c')) w') : wpList P ops Q (o :: rest) a (w.alloc (.cells cs e)) :=
  wpList_plain hgd fun _ hK => wp_push E s x ho hown hs cs hl hx h1 h63 hbytes hbase fun A' c' w' h2 p => hK _ _ (h A' c' w' h2 p)

theorem step_push {K : Act → World → Prop} {E' : Prop} {t e : TypeId} {size bytes : Nat} (E : Elem P t e size bytes) (hgd : o.guard = none) (s x : Operand)
    (ho : o.op = .call { callee := .builtin .append, args := #[s, x], argTypes := #[t, t] })
    {base n c : Nat} {A : Option Addr} {xs : List Value} (hown : w.ownsRow base e size (.slice A n c) n xs) (hs : a.eval s = .slice A n c)
    (cs : Array Value) (hl : cs.size = size) (hx : a.eval x = .slice (some ⟨w.heap.size, 0, none⟩) 1 1) (h1 : ∀ u ∈ cs.toList, u.oneCell' = true)
    (h63 : n + 1 ≤ maxLen) (hbytes : (n + 1) * bytes ≤ 140737488355328) (hbase : base ≤ w.heap.size)
    (h : ∀ A' c' w', w'.ownsRow base e size (.slice A' (n + 1) c') (n + 1) (xs ++ cs.toList) → Pushed w w' A A' → K (a.put o.dst (.slice A' (n + 1) c')) w') :
    if Region.wanted o (yielded ops a.tmps) = true then Oper.wp P o a (w.alloc (.cells cs e)) K Q else E' := by
  have hw : Region.wanted o (yielded ops a.tmps) = true := by simp [Region.wanted, hgd]
  rw [if_pos hw]
  exact wp_push E s x ho hown hs cs hl hx h1 h63 hbytes hbase h

theorem step_push_drew {K : Act → World → Prop} {E' : Prop} {t e : TypeId} {size bytes : Nat} (E : Elem P t e size bytes) (hgd : o.guard = none) (s x : Operand)
    (ho : o.op = .call { callee := .builtin .append, args := #[s, x], argTypes := #[t, t] })
    {base n c : Nat} {A : Option Addr} {xs : List Value} (hown : w.ownsRow base e size (.slice A n c) n xs) (hs : a.eval s = .slice A n c)
    (cs : Array Value) (hl : cs.size = size) (hx : a.eval x = .slice (some ⟨w.heap.size, 0, none⟩) 1 1) (h1 : ∀ u ∈ cs.toList, u.oneCell' = true)
    (h63 : n + 1 ≤ maxLen) (hbytes : (n + 1) * bytes ≤ 140737488355328) (hbase : base ≤ w.heap.size)
    (h : ∀ A' c' w', w'.ownsRow base e size (.slice A' (n + 1) c') (n + 1) (xs ++ cs.toList) → Pushed w w' A A' → K (a.put o.dst (.slice A' (n + 1) c')) w') :
    if Region.wanted o (yielded ops a.tmps) = true then Oper.wp P o a (w.alloc (.cells cs e)).drew K Q else E' :=
  step_push (w := w.drew) E hgd s x ho hown.drew hs cs hl hx h1 h63 hbytes hbase fun A' c' w' h2 p => h A' c' w' h2 ⟨⟨p.grown.os, p.grown.tape, p.grown.output, p.grown.size, p.grown.block⟩, p.at_⟩
end

theorem splice_full {α : Type} (L ys : List α) (k : Nat) (h : L.length = ys.length) (hk : ys.length ≤ k) : splice L 0 (ys.take k) = ys := by
  unfold splice
  rw [List.take_of_length_le hk, List.take_zero, List.nil_append, List.drop_eq_nil_of_le (by omega), List.append_nil]

/-- What is behind one thing is moved over it, and the last one is left out. -/
theorem splice_shift {α : Type} (L : List α) (q k size : Nat) (hL : L.length = k * size) (hq : q < k) :
    (splice L (q * size) ((L.drop ((q + 1) * size)).take (min (k - (q + 1)) (k - q) * size))).take ((k - 1) * size) = L.take (q * size) ++ L.drop ((q + 1) * size) := by
  have hm : min (k - (q + 1)) (k - q) = k - (q + 1) := by omega
  have hdl : (L.drop ((q + 1) * size)).length = (k - (q + 1)) * size := by rw [List.length_drop, hL, Nat.sub_mul]
  have hin : (L.drop ((q + 1) * size)).take ((k - (q + 1)) * size) = L.drop ((q + 1) * size) := List.take_of_length_le (by omega)
  rw [hm, hin]
  unfold splice
  have hq1 : q * size ≤ k * size := Nat.mul_le_mul_right _ (by omega)
  have htl : (L.take (q * size)).length = q * size := by rw [List.length_take, hL]; omega
  rw [← List.append_assoc]
  have e : (k - 1) * size = (L.take (q * size) ++ L.drop ((q + 1) * size)).length := by
    rw [List.length_append, htl, hdl, ← Nat.add_mul]
    congr 1; omega
  rw [e, List.take_left]

theorem iv_erase (l : List Int) (q : Nat) : (iv l).take (q * 1) ++ (iv l).drop ((q + 1) * 1) = iv (l.eraseIdx q) := by
  rw [Nat.mul_one, Nat.mul_one, List.eraseIdx_eq_take_drop_succ]
  simp [iv]

section
variable {P : Program} {w : World}

theorem run_copy_own {t e : TypeId} {size bytes : Nat} (E : Elem P t e size bytes) (ty : TypeId) {base g n c : Nat} {xs : List Value} (hown : w.ownsRow base e size (.slice (some ⟨g, 0, none⟩) n c) n xs)
    {dp : Option Addr} {dLen dCap : Nat} {B m d : Nat} {C : Option Addr} {ys : List Value} (hr : Reads w B size C m ys) (off : Nat)
    (hdp : 0 < min m dLen → dp = some ⟨g, off * size, none⟩) (hfit : off + min m dLen ≤ n) (h1 : ∀ u ∈ ys, u.oneCell' = true) :
    ∃ w', (Builtin.copy_ #[t, t] ty #[.slice dp dLen dCap, .slice C m d]).run P w = .ok (goInt (min m dLen : Nat)) w' ∧
      w'.ownsRow base e size (.slice (some ⟨g, 0, none⟩) n c) n (splice xs (off * size) (ys.take (min m dLen * size))) ∧ w.grownBy w' (some g) := by
  obtain ⟨i, z, hi, hz, hsize, hby, hzs⟩ := E.info
  subst hsize
  have hmin : Nat.min m dLen = min m dLen := rfl
  rcases Nat.eq_zero_or_pos (min m dLen) with h0 | h0
  · refine ⟨w, ?_, ?_, World.grownBy.refl w _⟩
    · have hf : (Builtin.firstCells i.size 0 (.slice C m d)).run P w = .ok #[] w := by
        cases C with
        | none => simp [Builtin.firstCells]
        | some a => simp [Builtin.firstCells, loadCells, loadCellsFrom]
      cases dp with
      | none => simp [Builtin.copy_, run_underlying E.under, Builtin.lenOf, sizeOf, typeInfo, hi, hmin, h0, hf]
      | some a => simp [Builtin.copy_, run_underlying E.under, Builtin.lenOf, sizeOf, typeInfo, hi, hmin, h0, hf, storeCells]
    · rw [h0]; simpa [splice] using hown
  · obtain rfl := hdp h0
    obtain ⟨sb, so, rfl, _, hsrc0⟩ := hr.2 (by omega)
    have hsrc : ∀ j u, ys[j]? = some u → w.cell? ((⟨sb, so, none⟩ : Addr).add j) = some u := fun j u hu => by rw [Addr.add_lit]; exact hsrc0 j u hu
    clear hsrc0
    generalize (⟨sb, so, none⟩ : Addr) = ad at *
    generalize hk : min m dLen = k at *
    have hkm : k ≤ m := by omega
    have hyl : (ys.take (k * i.size)).length = k * i.size := by
      rw [List.length_take, hr.1]; exact Nat.min_eq_left (Nat.mul_le_mul_right _ hkm)
    have hsrc' : ∀ j v, (ys.take (k * i.size))[j]? = some v → w.cell? (ad.add j) = some v := by
      intro j v hv
      rw [List.getElem?_take] at hv
      split at hv
      · exact hsrc j v hv
      · cases hv
    have hf := run_firstCells_some (P := P) w i.size k ad m d (ys.take (k * i.size)) hyl hsrc'
    rcases hown.2 with ⟨hv, _⟩ | ⟨g', cap, cur, hv, hb, hg, hnc, hcm, hcs, htake⟩
    · cases hv
    · simp only [Value.slice.injEq, Option.some.injEq, Addr.mk.injEq, and_true, true_and] at hv
      obtain ⟨rfl, rfl⟩ := hv
      have hle : off * i.size + k * i.size ≤ n * i.size := by rw [← Nat.add_mul]; exact Nat.mul_le_mul_right _ hfit
      have hle2 : n * i.size ≤ c * i.size := Nat.mul_le_mul_right _ hnc
      have h1' : ∀ u ∈ ys.take (k * i.size), u.oneCell' = true := fun u hu => h1 u (List.mem_of_mem_take hu)
      clear hsrc hsrc'
      generalize ys.take (k * i.size) = zs at *
      have hst := run_storeCells_at P g (off * i.size) e zs 0 cur w hg (by rw [hyl, hcs]; omega) h1'
      simp only [Nat.add_zero] at hst
      generalize hrow : (cur.toList.take (off * i.size) ++ zs ++ cur.toList.drop (off * i.size + zs.length)).toArray = row at hst
      have hrun : (Builtin.copy_ #[t, t] ty #[.slice (some ⟨g, off * i.size, none⟩) dLen dCap, .slice (some ad) m d]).run P w = .ok (goInt (k : Nat)) (w.setRow g row) := by
        simp [Builtin.copy_, run_underlying E.under, Builtin.lenOf, sizeOf, typeInfo, hi, hmin, hf, hst]
      refine ⟨_, hrun, ?_, ⟨rfl, rfl, rfl, by simp, fun j _ hj => setRow_other w g j _ (fun e => hj (by simp [e]))⟩⟩
      refine ⟨?_, .inr ⟨g, c, _, rfl, hb, setRow_heap w g cur _ e _ hg, hnc, hcm, ?_, ?_⟩⟩
      · rw [length_splice _ _ _ (by rw [hyl, hown.1]; omega)]; exact hown.1
      · rw [← hrow]
        simp only [List.size_toArray, List.length_append, hyl, List.length_take, List.length_drop, Array.length_toList, hcs]
        omega
      · rw [← hrow, ← htake]
        unfold splice
        rw [hyl]
        simp only [List.append_assoc]
        have hcl : cur.toList.length = c * i.size := by simpa using hcs
        apply List.ext_getElem?
        intro j
        simp only [List.getElem?_take, List.getElem?_append, List.length_take, hyl, List.getElem?_drop, hcl]
        rw [Nat.min_eq_left (show off * i.size ≤ c * i.size by omega), Nat.min_eq_left hle2, Nat.min_eq_left (show off * i.size ≤ n * i.size by omega)]
        repeat' split
        all_goals first
          | rfl
          | omega
          | (rw [List.getElem?_eq_none (by omega)])

/-- 'copy(dst, src)', dst a part of a row of the call's own. -/
theorem wpList_copy {ops : Array Oper} {rest : List Oper} {o : Oper} {a : Act} {Q : Exit → Act → World → Prop} {t e : TypeId} {size bytes : Nat} (E : Elem P t e size bytes) (hgd : o.guard = none) (s x : Operand)
    (ho : o.op = .call { callee := .builtin .copy, args := #[s, x], argTypes := #[t, t] })
    {base g n c : Nat} {xs : List Value} (hown : w.ownsRow base e size (.slice (some ⟨g, 0, none⟩) n c) n xs)
    {dp : Option Addr} {dLen dCap : Nat} (hs : a.eval s = .slice dp dLen dCap) {B m d : Nat} {C : Option Addr} {ys : List Value} (hr : Reads w B size C m ys) (hx : a.eval x = .slice C m d) (off : Nat)
    (hdp : 0 < min m dLen → dp = some ⟨g, off * size, none⟩) (hfit : off + min m dLen ≤ n) (h1 : ∀ u ∈ ys, u.oneCell' = true)
    (h : ∀ w', w'.ownsRow base e size (.slice (some ⟨g, 0, none⟩) n c) n (splice xs (off * size) (ys.take (min m dLen * size))) → w.grownBy w' (some g) → wpList P ops Q rest (a.put o.dst (goInt (min m dLen : Nat))) w') : wpList P ops Q (o :: rest) a w := by
  obtain ⟨w', hrun, h2, h3⟩ := run_copy_own E o.type hown (dCap := dCap) (d := d) hr off hdp hfit h1
  refine wpList_plain hgd fun K hK => ?_
  unfold Oper.wp execOp
  simp only [ho, resolve, invoke, builtin, Sem.run_bind, Sem.run_pure, Result.andThen_ok, List.map_toArray, List.map_cons, List.map_nil, hs, hx, hrun]
  exact hK _ _ (h w' h2 h3)
end

end Go.Proofs.YtpdnipabaimofaaGreat

namespace Go.Proofs.YtpdnipabaimofaaGreat
open Go.RowKit

theorem elInt : Elem Tryz.prog 25 3 1 8 := Elem.mk_ Tryz.underlying25 (z := .int .i64 0) (by kernel_rfl) rfl (by decide)
theorem elMail : Elem Tryz.prog 57 79 4 32 := Elem.mk_ Tryz.underlying57 (z := .agg #[.int .i64 0, .int .i64 0, .int .i64 0, .int .i64 0]) (by kernel_rfl) rfl (by decide)
theorem infoMail : (Tryz.prog.info? 79).map (fun i => (i.zero, i.size, i.bytes)) = some (some (.agg #[.int .i64 0, .int .i64 0, .int .i64 0, .int .i64 0]), 4, 32) := by kernel_rfl
end Go.Proofs.YtpdnipabaimofaaGreat

namespace Go.Proofs.YtpdnipabaimofaaGreat
open Go.RowKit
open Go.Maps (Keyed IsMap)

theorem keyedI : Keyed Tryz.prog 3 := Maps.int_keyed Tryz.underlying3
def wfI (n : Int) : Prop := (Lit.int .i64 n).wf = true
theorem keyI {n : Int} (h : wfI n) : keyOf Tryz.prog 3 (.int .i64 n) = some (.int .i64 n) := Maps.keyOf_int_mk Tryz.underlying3 h
theorem keyI_inv {v : Value} {l : Lit} (h : keyOf Tryz.prog 3 v = some l) : ∃ x, v = .int .i64 x ∧ l = .int .i64 x ∧ wfI x := by
  obtain ⟨x, h1, h2, h3⟩ := Maps.keyOf_int_inv Tryz.underlying3 h
  exact ⟨x, h1, h2, h3⟩

section
variable {β : Type} {D : DataW β} {f g : Int → Option β} {n : Int}
/-- The map reads as the part function f. -/
def MapI (D : DataW β) (f : Int → Option β) : Prop := IsMap D ∧ ∀ n, wfI n → (Maps.has D (.int .i64 n) = (f n).isSome) ∧ ∀ x, f n = some x → ∀ z, D.atKey (.int .i64 n) z = .held x
theorem MapI.nil : MapI (β := β) (.map []) fun _ => none := ⟨Maps.isMap_empty, fun n _ => ⟨by simp [Maps.has], fun x h => by cases h⟩⟩
theorem MapI.put (h : MapI D f) (hn : wfI n) (x : β) : MapI (D.put (.int .i64 n) (.held x)) (fun m => if m = n then some x else f m) := by
  refine ⟨h.1.put _ _, fun m hm => ?_⟩
  by_cases e : m = n
  · subst e
    simp only [if_true]
    refine ⟨Maps.has_put_same h.1 (keyedI.key (keyI hn)) _, fun y hy z => ?_⟩
    cases hy
    exact Maps.atKey_put_same h.1 (keyedI.key (keyI hn)) _ _
  · simp only [if_neg e]
    have hne : (Lit.int .i64 m) ≠ .int .i64 n := fun c => e (by injection c)
    rw [Maps.has_put_other hne]
    refine ⟨(h.2 m hm).1, fun y hy z => ?_⟩
    rw [Maps.atKey_put_other hne]
    exact (h.2 m hm).2 y hy z
theorem MapI.look (h : MapI D f) (hn : wfI n) (z : β) : D.atKey (.int .i64 n) (.held z) = .held ((f n).getD z) := by
  cases hf : f n with
  | some x => exact (h.2 n hn).2 x hf _
  | none => exact Maps.atKey_of_not_has (by rw [(h.2 n hn).1, hf]; rfl) _
theorem MapI.same (h : MapI D f) (hs : ∀ n, wfI n → g n = f n) : MapI D g := ⟨h.1, fun n hn => by rw [hs n hn]; exact h.2 n hn⟩

/-- What has been met of a range over the map: the keys o. -/
structure MetI (f : Int → Option β) (left : Lit → Bool) (o : List Int) : Prop where
  sub : ∀ n ∈ o, (f n).isSome = true ∧ wfI n
  rest : ∀ n, wfI n → (left (.int .i64 n) = true ↔ (f n).isSome = true ∧ n ∉ o)
theorem MetI.start (h : MapI D f) : MetI f (Maps.has D) [] := ⟨fun n hn => by simp at hn, fun n hn => by rw [(h.2 n hn).1]; simp⟩
theorem MetI.step {left : Lit → Bool} {o : List Int} (h : MetI f left o) (hM : MapI D f) (hn : wfI n) {c : β} (hl : left (.int .i64 n) = true) (hat : ∀ z, D.atKey (.int .i64 n) z = .held c) :
    f n = some c ∧ n ∉ o ∧ MetI f (fun z => left z && !z.sameKey (.int .i64 n)) (o ++ [n]) := by
  obtain ⟨h1, h2⟩ := (h.rest n hn).1 hl
  have hf : f n = some c := by
    cases hfn : f n with
    | none => rw [hfn] at h1; cases h1
    | some x =>
      have := (hM.2 n hn).2 x hfn .nil
      rw [hat] at this
      injection this with this
      rw [this]
  refine ⟨hf, h2, fun m hm => ?_, fun m hm => ?_⟩
  · rcases List.mem_append.1 hm with hm | hm
    · exact h.sub m hm
    · rw [List.mem_singleton.1 hm]; exact ⟨h1, hn⟩
  · simp only [Bool.and_eq_true, Bool.not_eq_true', List.mem_append, List.mem_cons, List.not_mem_nil, or_false, not_or]
    rw [h.rest m hm, and_assoc]
    refine and_congr_right fun _ => and_congr_right fun _ => ?_
    constructor
    · rintro h3 rfl
      rw [WideAt.sameKey_self (keyedI.key (keyI hn))] at h3
      cases h3
    · intro h3
      exact Maps.sameKey_ne fun e => h3 (by injection e)
theorem MetI.all {left : Lit → Bool} {o : List Int} (h : MetI f left o) (hl : ∀ l, left l = false) (hn : wfI n) : n ∈ o ↔ (f n).isSome = true :=
  ⟨fun hm => (h.sub n hm).1, fun hs => by
    rcases Classical.em (n ∈ o) with h1 | h1
    · exact h1
    · have := (h.rest n hn).2 ⟨hs, h1⟩
      rw [hl] at this
      cases this⟩
end

section
variable {β : Type} {mk : β → Value} {R : Value → Option (DataW β × List MemPlace)} {mt et : TypeId} {z0 : β} {w : World} {ops : Array Oper} {rest : List Oper} {o : Oper} {a : Act} {Q : Exit → Act → World → Prop}
/-- How elements read. -/
structure ElI (mk : β → Value) (R : Value → Option (DataW β × List MemPlace)) (mt et : TypeId) (z0 : β) : Prop where
  under : Tryz.prog.underlying mt = some (.map 3 et)
  zero : ∀ w, (zeroValue et).run Tryz.prog w = .ok (mk z0) w
  mk_ : ∀ x, R (mk x) = some (.held x, [])
  inv : ∀ v y, R v = some y → ∃ x, v = mk x ∧ y = (.held x, [])
theorem wpList_lookI (E : ElI mk R mt et z0) (hw : Region.wanted o (yielded ops a.tmps) = true) (m x : Operand) (hop : o.op = Op.lookup mt m x false) {b n : Nat} {D : DataW β} {f : Int → Option β} (hm : a.eval m = .map (some b))
    (hown : w.ownsMap Tryz.prog 3 R b n D) (hM : MapI D f) {k : Int} (hx : a.eval x = .int .i64 k) (hk : wfI k) (hK : wpList Tryz.prog ops Q rest (a.put o.dst (mk ((f k).getD z0))) w) : wpList Tryz.prog ops Q (o :: rest) a w := by
  refine BigFrame.wpList_want hw fun K' hK' => ?_
  obtain ⟨v, ps, hrun, hv⟩ := hown.lookup keyedI E.under (E.zero w) (E.mk_ z0) (keyI hk)
  rw [hM.look hk] at hv
  obtain ⟨y, rfl, h2⟩ := E.inv _ _ hv
  have e : (f k).getD z0 = y := by
    have := congrArg Prod.fst h2
    injection this
  subst e
  unfold Oper.wp
  simp [execOp, hop, hm, hx, hrun, Result.andThen]
  exact hK' _ _ hK
theorem wpList_lookI_ok (E : ElI mk R mt et z0) (hw : Region.wanted o (yielded ops a.tmps) = true) (m x : Operand) (hop : o.op = Op.lookup mt m x true) {b n : Nat} {D : DataW β} {f : Int → Option β} (hm : a.eval m = .map (some b))
    (hown : w.ownsMap Tryz.prog 3 R b n D) (hM : MapI D f) {k : Int} (hx : a.eval x = .int .i64 k) (hk : wfI k) (hK : wpList Tryz.prog ops Q rest (a.put o.dst (.tuple #[mk ((f k).getD z0), .bool (f k).isSome])) w) : wpList Tryz.prog ops Q (o :: rest) a w := by
  refine BigFrame.wpList_want hw fun K' hK' => ?_
  obtain ⟨v, ps, hrun, hv⟩ := hown.look_ok keyedI E.under (E.zero w) (E.mk_ z0) (keyI hk)
  rw [hM.look hk] at hv
  obtain ⟨y, rfl, h2⟩ := E.inv _ _ hv
  have e : (f k).getD z0 = y := by
    have := congrArg Prod.fst h2
    injection this
  subst e
  rw [(hM.2 k hk).1] at hrun
  unfold Oper.wp
  simp [execOp, hop, hm, hx, hrun, Result.andThen]
  exact hK' _ _ hK
theorem wpList_putI (E : ElI mk R mt et z0) (hg : o.guard = none) (hd : o.dst = none) (m x v : Operand) (hop : o.op = Op.mapUpdate mt m x v) {b n : Nat} {D : DataW β} {f : Int → Option β} (hm : a.eval m = .map (some b))
    (hown : w.ownsMap Tryz.prog 3 R b n D) (hn : n < maxLen) (hM : MapI D f) {k : Int} (hx : a.eval x = .int .i64 k) (hk : wfI k) (y : β) (hv : a.eval v = mk y)
    (hK : ∀ w' D', w'.ownsMap Tryz.prog 3 R b (n + 1) D' → Hid (MapI D' fun m => if m = k then some y else f m) → w.grownBy w' (some b) → wpList Tryz.prog ops Q rest a w') : wpList Tryz.prog ops Q (o :: rest) a w :=
  wpList_mapUpdate_own w hg m x v mt hop 3 et keyedI E.under R b n D hm hown hn _ _ _ hx hv (keyI hk) (.held y) [] (E.mk_ y) fun w' h1 h2 => by
    rw [hd]
    exact hK w' _ h1 (hM.put hk y) h2
theorem wpList_rangeI (E : ElI mk R mt et z0) (hg : o.guard = none) (m : Operand) (hop : o.op = Op.range mt m) {b n : Nat} {D : DataW β} {f : Int → Option β} (hm : a.eval m = .map (some b)) (hown : w.ownsMap Tryz.prog 3 R b n D) (hM : MapI D f)
    (hK : ∀ w' cnt left, w'.ranges Tryz.prog 3 R b w.heap.size n D left cnt → cnt ≤ n → Hid (MetI f left []) → w.grownBy w' none → w'.heap.size = w.heap.size + 1 → wpList Tryz.prog ops Q rest (a.put o.dst (.pointer (some ⟨w.heap.size, 0, none⟩))) w') : wpList Tryz.prog ops Q (o :: rest) a w :=
  wpList_range_own w hg m mt hop 3 et keyedI E.under R b n D hm hown fun w' h1 h2 h3 => hK w' _ _ h1 hown.size_le (MetI.start hM) h2 h3
theorem wpList_nextI (E : ElI mk R mt et z0) (hg : o.guard = none) (it : Operand) (hop : o.op = Op.next it false) {b r n : Nat} {D : DataW β} {f : Int → Option β} {left : Lit → Bool} {cnt : Nat} {os : List Int} (hit : a.eval it = .pointer (some ⟨r, 0, none⟩))
    (h : w.ranges Tryz.prog 3 R b r n D left cnt) (hM : MapI D f) (hMet : MetI f left os)
    (hDone : Hid (∀ n, wfI n → (n ∈ os ↔ (f n).isSome = true)) → wpList Tryz.prog ops Q rest (a.put o.dst (.tuple #[.bool false])) w)
    (hMore : ∀ (x : Int) (c : β) (left' : Lit → Bool) (w' : World) (cnt' : Nat), Hid (wfI x) → Hid (f x = some c ∧ x ∉ os) → Hid (MetI f left' (os ++ [x])) → w'.ranges Tryz.prog 3 R b r n D left' cnt' → cnt' < cnt →
      w.grownBy w' (some r) → w'.heap.size = w.heap.size → (Instr.entry (.pointer (some ⟨r, 0, none⟩))).run Tryz.prog w' = .ok (.tuple #[.int .i64 x, mk c]) w' →
      wpList Tryz.prog ops Q rest (a.put o.dst (.tuple #[.bool true, .int .i64 x, mk c])) w') : wpList Tryz.prog ops Q (o :: rest) a w :=
  wpList_next_ranges w hg it hop 3 keyedI R (fun x : Int => .int .i64 x) mk (fun _ _ hk => by obtain ⟨x, rfl, _, _⟩ := keyI_inv hk; exact ⟨x, rfl⟩) (fun _ _ hv => by obtain ⟨x, e, _⟩ := E.inv _ _ hv; exact ⟨x, e⟩) b r n D left cnt hit h (fun _ hl => hDone fun n hn => hMet.all hl hn)
    (fun x c kl y w' cnt' hkey hlk hv hat hrg hlt hgr hsz hen => by
      obtain ⟨x', e1, rfl, hwf⟩ := keyI_inv hkey
      cases e1
      rw [E.mk_] at hv
      cases hv
      obtain ⟨h1, h2, h3⟩ := hMet.step hM hwf hlk hat
      exact hMore x c _ w' cnt' hwf ⟨h1, h2⟩ h3 hrg hlt hgr hsz hen)
end

/-- Numbers as elements. -/
def iR : Value → Option (DataW Int × List MemPlace)
  | .int .i64 x => some (.held x, [])
  | _ => none
def bRI : Value → Option (DataW Bool × List MemPlace)
  | .bool x => some (.held x, [])
  | _ => none
theorem elII : ElI (fun x : Int => .int .i64 x) iR 133 3 0 where
  under := Tryz.underlying133
  zero w := by kernel_rfl
  mk_ _ := rfl
  inv v y h := by
    unfold iR at h
    split at h
    · cases h; exact ⟨_, rfl, rfl⟩
    · cases h
theorem elIB : ElI (fun x : Bool => .bool x) bRI 67 4 false where
  under := Tryz.underlying67
  zero w := by kernel_rfl
  mk_ _ := rfl
  inv v y h := by
    unfold bRI at h
    split at h
    · cases h; exact ⟨_, rfl, rfl⟩
    · cases h
end Go.Proofs.YtpdnipabaimofaaGreat

namespace Go.Proofs.YtpdnipabaimofaaGreat
open Go.RowKit

theorem isNaN_c (x : Int) (w : World) : Calls Tryz.prog 99 #[.int .i64 x] w fun e w' => e = .returned (.bool false) ∧ w' = w := by
  go_enter Tryz.func99, Tryz.ntmps99
  go_wp2
  go_ret
  exact ⟨rfl, rfl⟩

end Go.Proofs.YtpdnipabaimofaaGreat

namespace Go.Proofs.YtpdnipabaimofaaGreat
open Go.RowKit

/-- A message's key stands ahead of another one's. -/
def kless (a b : Msg) : Prop := a.slot < b.slot ∨ a.slot = b.slot ∧ (a.dir < b.dir ∨ a.dir = b.dir ∧ a.v < b.v)
instance (a b : Msg) : Decidable (kless a b) := by unfold kless; infer_instance
/-- Two messages have the same key. -/
def kEq (a b : Msg) : Prop := a.slot = b.slot ∧ a.dir = b.dir ∧ a.v = b.v
instance (a b : Msg) : Decidable (kEq a b) := by unfold kEq; infer_instance

theorem kless_irrefl (a : Msg) : ¬ kless a a := by unfold kless; omega
theorem kless_trans {a b c : Msg} (h : kless a b) (k : kless b c) : kless a c := by unfold kless at *; omega
theorem kless_tri (a b : Msg) : kless a b ∨ kEq a b ∨ kless b a := by unfold kless kEq; omega
theorem kless_ne {a b : Msg} (h : kless a b) : ¬ kEq a b := by unfold kless at h; unfold kEq; omega
theorem kless_asymm {a b : Msg} (h : kless a b) : ¬ kless b a := by unfold kless at *; omega
theorem kEq_refl (a : Msg) : kEq a a := ⟨rfl, rfl, rfl⟩
theorem kEq_symm {a b : Msg} (h : kEq a b) : kEq b a := ⟨h.1.symm, h.2.1.symm, h.2.2.symm⟩
theorem kEq_trans {a b c : Msg} (h : kEq a b) (k : kEq b c) : kEq a c := ⟨h.1.trans k.1, h.2.1.trans k.2.1, h.2.2.trans k.2.2⟩
theorem kless_of_eq {a b c : Msg} (h : kEq a b) (k : kless b c) : kless a c := by unfold kless kEq at *; omega
theorem kless_of_eq' {a b c : Msg} (h : kless a b) (k : kEq b c) : kless a c := by unfold kless kEq at *; omega
theorem kEq_ext {a b : Msg} (h : kEq a b) (hd : a.d = b.d) : a = b := (Msg.eq_iff a b).2 ⟨h.1, h.2.1, h.2.2, hd⟩

/-- Rows whose keys rise, with the same things in them, are the same. -/
theorem rise_ext : ∀ {o o' : List Msg}, o.Pairwise kless → o'.Pairwise kless → (∀ m, m ∈ o ↔ m ∈ o') → o = o'
  | [], [], _, _, _ => rfl
  | [], b :: o', _, _, h => absurd ((h b).2 (by simp)) (by simp)
  | a :: o, [], _, _, h => absurd ((h a).1 (by simp)) (by simp)
  | a :: o, b :: o', h1, h2, h => by
    rw [List.pairwise_cons] at h1 h2
    have hab : a = b := by
      rcases List.mem_cons.1 ((h a).1 (by simp)) with e | ha
      · exact e
      · rcases List.mem_cons.1 ((h b).2 (by simp)) with e | hb
        · exact e.symm
        · exact absurd (h1.1 b hb) (kless_asymm (h2.1 a ha))
    subst hab
    congr 1
    refine rise_ext h1.2 h2.2 fun m => ⟨fun hm => ?_, fun hm => ?_⟩
    · rcases List.mem_cons.1 ((h m).1 (by simp [hm])) with rfl | hm'
      · exact absurd (h1.1 _ hm) (kless_irrefl _)
      · exact hm'
    · rcases List.mem_cons.1 ((h m).2 (by simp [hm])) with rfl | hm'
      · exact absurd (h2.1 _ hm) (kless_irrefl _)
      · exact hm'

/-- A row has just the nearest message of each key. -/
def Comb (l o : List Msg) : Prop := o.Pairwise kless ∧ ∀ m, m ∈ o ↔ m ∈ l ∧ ∀ m' ∈ l, kEq m' m → m.d ≤ m'.d

theorem Comb.one {l o o' : List Msg} (h : Comb l o) (h' : Comb l o') : o = o' :=
  rise_ext h.1 h'.1 fun m => by rw [h.2, h'.2]

theorem least_is (x : Msg) : ∀ l : List Msg, x ∈ l → ∃ y ∈ l, kEq y x ∧ ∀ m' ∈ l, kEq m' x → y.d ≤ m'.d
  | [], h => by simp at h
  | a :: l, h => by
    by_cases hl : ∃ z ∈ l, kEq z x
    · obtain ⟨z, hz, hzx⟩ := hl
      obtain ⟨y, hy, hyx, hmin⟩ := least_is z l hz
      by_cases ha : kEq a x ∧ a.d < y.d
      · refine ⟨a, by simp, ha.1, fun m' hm' hk => ?_⟩
        rcases List.mem_cons.1 hm' with rfl | hm'
        · exact Int.le_refl _
        · have := hmin m' hm' (kEq_trans hk (kEq_symm hzx)); omega
      · refine ⟨y, by simp [hy], kEq_trans hyx hzx, fun m' hm' hk => ?_⟩
        rcases List.mem_cons.1 hm' with rfl | hm'
        · have : ¬ m'.d < y.d := fun e => ha ⟨hk, e⟩
          omega
        · exact hmin m' hm' (kEq_trans hk (kEq_symm hzx))
    · have hx : x = a := by
        rcases List.mem_cons.1 h with e | h
        · exact e
        · exact absurd ⟨x, h, kEq_refl x⟩ hl
      subst hx
      refine ⟨x, by simp, kEq_refl x, fun m' hm' hk => ?_⟩
      rcases List.mem_cons.1 hm' with rfl | hm'
      · exact Int.le_refl _
      · exact absurd ⟨m', hm', hk⟩ hl

theorem Comb.has {l o : List Msg} (h : Comb l o) {x : Msg} (hx : x ∈ l) : ∃ y ∈ o, kEq y x ∧ ∀ m' ∈ l, kEq m' x → y.d ≤ m'.d := by
  obtain ⟨y, hy, hyx, hmin⟩ := least_is x l hx
  exact ⟨y, (h.2 y).2 ⟨hy, fun m' hm' hk => hmin m' hm' (kEq_trans hk hyx)⟩, hyx, hmin⟩

/-- A message, in its place; of one key the lesser number. -/
def putM : List Msg → Msg → List Msg
  | [], x => [x]
  | y :: ys, x => if kless y x then y :: putM ys x else if kEq y x then { x with d := min x.d y.d } :: ys else x :: y :: ys

theorem putM_past : ∀ {pre rest : List Msg} {x : Msg}, (∀ y ∈ pre, kless y x) → putM (pre ++ rest) x = pre ++ putM rest x
  | [], _, _, _ => rfl
  | y :: pre, rest, x, h => by
    simp only [List.cons_append, putM]
    rw [if_pos (h y (by simp)), putM_past fun z hz => h z (by simp [hz])]

theorem putM_key {o : List Msg} {x m : Msg} (hm : m ∈ putM o x) : m ∈ o ∨ kEq m x := by
  induction o with
  | nil => simp [putM] at hm; subst hm; exact .inr (kEq_refl _)
  | cons y ys ih =>
    simp only [putM] at hm
    split at hm
    · rcases List.mem_cons.1 hm with rfl | hm
      · exact .inl (by simp)
      · rcases ih hm with h | h
        · exact .inl (by simp [h])
        · exact .inr h
    · split at hm
      · rcases List.mem_cons.1 hm with rfl | hm
        · exact .inr ⟨rfl, rfl, rfl⟩
        · exact .inl (by simp [hm])
      · rcases List.mem_cons.1 hm with rfl | hm
        · exact .inr (kEq_refl _)
        · exact .inl hm

theorem putM_rise {o : List Msg} {x : Msg} (h : o.Pairwise kless) : (putM o x).Pairwise kless := by
  induction o with
  | nil => simp [putM]
  | cons y ys ih =>
    rw [List.pairwise_cons] at h
    simp only [putM]
    split
    · rename_i hlt
      rw [List.pairwise_cons]
      refine ⟨fun m hm => ?_, ih h.2⟩
      rcases putM_key hm with h1 | h1
      · exact h.1 m h1
      · exact kless_of_eq' hlt (kEq_symm h1)
    · rename_i hnl
      split
      · rename_i he
        rw [List.pairwise_cons]
        refine ⟨fun m hm => kless_of_eq (b := y) (kEq_symm he) (h.1 m hm), h.2⟩
      · rename_i hne
        have hxy : kless x y := by
          rcases kless_tri y x with h1 | h1 | h1
          · exact absurd h1 hnl
          · exact absurd h1 hne
          · exact h1
        rw [List.pairwise_cons, List.pairwise_cons]
        refine ⟨fun m hm => ?_, h⟩
        rcases List.mem_cons.1 hm with rfl | hm
        · exact hxy
        · exact kless_trans hxy (h.1 m hm)

/-- What is in it: what was there under other keys, and one of x's key. -/
theorem putM_mem {o : List Msg} {x : Msg} (h : o.Pairwise kless) (m : Msg) :
    m ∈ putM o x ↔ (m ∈ o ∧ ¬ kEq m x) ∨ (kEq m x ∧ ((∃ y ∈ o, kEq y x ∧ m.d = min x.d y.d) ∨ ((∀ y ∈ o, ¬ kEq y x) ∧ m.d = x.d))) := by
  induction o with
  | nil =>
    simp only [putM, List.mem_cons, List.not_mem_nil, or_false, false_and, false_or]
    constructor
    · rintro rfl; exact ⟨kEq_refl _, .inr ⟨fun y hy => absurd hy (by simp), rfl⟩⟩
    · rintro ⟨h1, h2⟩
      rcases h2 with ⟨y, hy⟩ | ⟨_, h2⟩
      · exact False.elim hy
      · exact kEq_ext h1 h2
  | cons y ys ih =>
    rw [List.pairwise_cons] at h
    simp only [putM]
    split
    · rename_i hlt
      have hne : ¬ kEq y x := kless_ne hlt
      rw [List.mem_cons, ih h.2]
      constructor
      · rintro (rfl | ⟨h1, h2⟩ | ⟨h1, h2⟩)
        · exact .inl ⟨by simp, hne⟩
        · exact .inl ⟨by simp [h1], h2⟩
        · refine .inr ⟨h1, ?_⟩
          rcases h2 with ⟨z, hz, hzx⟩ | ⟨h2, h3⟩
          · exact .inl ⟨z, by simp [hz], hzx⟩
          · refine .inr ⟨fun z hz => ?_, h3⟩
            rcases List.mem_cons.1 hz with rfl | hz
            · exact hne
            · exact h2 z hz
      · rintro (⟨h1, h2⟩ | ⟨h1, h2⟩)
        · rcases List.mem_cons.1 h1 with rfl | h1
          · exact .inl rfl
          · exact .inr (.inl ⟨h1, h2⟩)
        · refine .inr (.inr ⟨h1, ?_⟩)
          rcases h2 with ⟨z, hz, hzx⟩ | ⟨h2, h3⟩
          · rcases List.mem_cons.1 hz with rfl | hz
            · exact absurd hzx.1 hne
            · exact .inl ⟨z, hz, hzx⟩
          · exact .inr ⟨fun z hz => h2 z (by simp [hz]), h3⟩
    · rename_i hnl
      have hout : ∀ {z : Msg}, kless x z ∨ kEq x y → z ∈ ys → ¬ kEq z x := fun {z} hz hin e => by
        have h1 := h.1 z hin
        rcases hz with hz | hz
        · exact kless_ne hz (kEq_symm e)
        · exact kless_ne h1 (kEq_trans (kEq_symm hz) (kEq_symm e))
      split
      · rename_i he
        rw [List.mem_cons]
        constructor
        · rintro (rfl | h1)
          · exact .inr ⟨⟨rfl, rfl, rfl⟩, .inl ⟨y, by simp, he, rfl⟩⟩
          · exact .inl ⟨by simp [h1], hout (.inr (kEq_symm he)) h1⟩
        · rintro (⟨h1, h2⟩ | ⟨h1, h2⟩)
          · rcases List.mem_cons.1 h1 with rfl | h1
            · exact absurd he h2
            · exact .inr h1
          · refine .inl (kEq_ext ⟨h1.1, h1.2.1, h1.2.2⟩ ?_)
            rcases h2 with ⟨z, hz, hzx, hd⟩ | ⟨h2, h3⟩
            · rcases List.mem_cons.1 hz with rfl | hz
              · exact hd
              · exact absurd hzx (hout (.inr (kEq_symm he)) hz)
            · exact absurd he (h2 y (by simp))
      · rename_i hne
        have hxy : kless x y := by
          rcases kless_tri y x with h1 | h1 | h1
          · exact absurd h1 hnl
          · exact absurd h1 hne
          · exact h1
        have hall : ∀ z ∈ y :: ys, ¬ kEq z x := fun z hz => by
          rcases List.mem_cons.1 hz with rfl | hz
          · exact hne
          · exact hout (.inl (kless_trans hxy (h.1 z hz))) hz
        rw [List.mem_cons]
        constructor
        · rintro (rfl | h1)
          · exact .inr ⟨kEq_refl _, .inr ⟨hall, rfl⟩⟩
          · exact .inl ⟨h1, hall m h1⟩
        · rintro (⟨h1, h2⟩ | ⟨h1, h2⟩)
          · exact .inr h1
          · refine .inl (kEq_ext h1 ?_)
            rcases h2 with ⟨z, hz, hzx, hd⟩ | ⟨h2, h3⟩
            · exact absurd hzx (hall z hz)
            · exact h3

theorem Comb.put {l o : List Msg} {x : Msg} (h : Comb l o) : Comb (l ++ [x]) (putM o x) := by
  refine ⟨putM_rise h.1, fun m => ?_⟩
  rw [putM_mem h.1]
  constructor
  · rintro (⟨h1, h2⟩ | ⟨h1, h2⟩)
    · obtain ⟨h3, h4⟩ := (h.2 m).1 h1
      refine ⟨by simp [h3], fun m' hm' hk => ?_⟩
      rcases List.mem_append.1 hm' with hm' | hm'
      · exact h4 m' hm' hk
      · simp at hm'; subst hm'; exact absurd (kEq_symm hk) h2
    · rcases h2 with ⟨y, hy, hyx, hd⟩ | ⟨h2, h3⟩
      · obtain ⟨hyl, hymin⟩ := (h.2 y).1 hy
        refine ⟨?_, fun m' hm' hk => ?_⟩
        · rcases Int.le_total x.d y.d with hle | hle
          · have : m = x := kEq_ext h1 (by omega)
            simp [this]
          · have : m = y := kEq_ext (kEq_trans h1 (kEq_symm hyx)) (by omega)
            simp [this, hyl]
        · rcases List.mem_append.1 hm' with hm' | hm'
          · have := hymin m' hm' (kEq_trans (kEq_trans hk h1) (kEq_symm hyx)); omega
          · simp at hm'; subst hm'; omega
      · have : m = x := kEq_ext h1 h3
        subst this
        refine ⟨by simp, fun m' hm' hk => ?_⟩
        rcases List.mem_append.1 hm' with hm' | hm'
        · obtain ⟨y, hy, hyx, _⟩ := h.has hm'
          exact absurd (kEq_trans hyx hk) (h2 y hy)
        · simp at hm'; subst hm'; exact Int.le_refl _
  · rintro ⟨h1, h2⟩
    by_cases hk : kEq m x
    · refine .inr ⟨hk, ?_⟩
      by_cases hex : ∃ y ∈ o, kEq y x
      · obtain ⟨y, hy, hyx⟩ := hex
        refine .inl ⟨y, hy, hyx, ?_⟩
        obtain ⟨hyl, hymin⟩ := (h.2 y).1 hy
        have a1 := h2 x (by simp) (kEq_symm hk)
        have a2 := h2 y (by simp [hyl]) (kEq_trans hyx (kEq_symm hk))
        rcases List.mem_append.1 h1 with h1 | h1
        · have := hymin m h1 (kEq_trans hk (kEq_symm hyx)); omega
        · simp at h1; subst h1; omega
      · refine .inr ⟨fun y hy e => hex ⟨y, hy, e⟩, ?_⟩
        rcases List.mem_append.1 h1 with h1 | h1
        · obtain ⟨y, hy, hyx, _⟩ := h.has h1
          exact absurd ⟨y, hy, kEq_trans hyx hk⟩ hex
        · simp at h1; subst h1; rfl
    · refine .inl ⟨(h.2 m).2 ⟨?_, fun m' hm' hk' => h2 m' (by simp [hm']) hk'⟩, hk⟩
      rcases List.mem_append.1 h1 with h1 | h1
      · exact h1
      · simp at h1; subst h1; exact absurd (kEq_refl _) hk

/-- Messages combined. -/
def combine (l : List Msg) : List Msg := l.foldl putM []

theorem combine_snoc (l : List Msg) (x : Msg) : combine (l ++ [x]) = putM (combine l) x := by simp [combine]

theorem combine_comb (l : List Msg) : Comb l (combine l) := by
  have key : ∀ (k : Nat) (l : List Msg), l.length = k → Comb l (combine l) := by
    intro k
    induction k with
    | zero =>
      intro l h
      have : l = [] := List.eq_nil_of_length_eq_zero h
      subst this
      exact ⟨List.Pairwise.nil, fun m => by simp [combine]⟩
    | succ k ih =>
      intro l h
      have hne : l ≠ [] := fun e => by subst e; simp at h
      rw [← List.dropLast_concat_getLast hne]
      rw [combine_snoc]
      exact (ih _ (by simp [h])).put
  exact key _ l rfl

theorem comb_eq {l o : List Msg} (h : Comb l o) : o = combine l := h.one (combine_comb l)

/-- Only what is there, and how near, matters. -/
theorem Comb.of_same {l l' o : List Msg} (h : Comb l o) (hs : ∀ m, m ∈ l ↔ m ∈ l') : Comb l' o :=
  ⟨h.1, fun m => by rw [h.2, hs]; exact ⟨fun ⟨a, b⟩ => ⟨a, fun m' hm' => b m' ((hs m').2 hm')⟩, fun ⟨a, b⟩ => ⟨a, fun m' hm' => b m' ((hs m').1 hm')⟩⟩⟩

theorem combine_same {l l' : List Msg} (hs : ∀ m, m ∈ l ↔ m ∈ l') : combine l = combine l' := (comb_eq ((combine_comb l).of_same hs))

theorem mem_combine {l : List Msg} {m : Msg} (h : m ∈ combine l) : m ∈ l := (((combine_comb l).2 m).1 h).1

/-- Combined by parts, and then all, is as all at once. -/
theorem combine_parts (l l' : List Msg) : combine (combine l ++ combine l') = combine (l ++ l') := by
  apply Eq.symm
  apply comb_eq
  refine ⟨(combine_comb _).1, fun m => ?_⟩
  rw [(combine_comb (l ++ l')).2]
  have sub : ∀ x, x ∈ combine l ++ combine l' → x ∈ l ++ l' := fun x hx => by
    rcases List.mem_append.1 hx with h | h
    · exact List.mem_append.2 (.inl (mem_combine h))
    · exact List.mem_append.2 (.inr (mem_combine h))
  have low : ∀ x, x ∈ l ++ l' → ∃ y ∈ combine l ++ combine l', kEq y x ∧ y.d ≤ x.d := fun x hx => by
    rcases List.mem_append.1 hx with h | h
    · obtain ⟨y, hy, hk, hm⟩ := (combine_comb l).has h
      exact ⟨y, List.mem_append.2 (.inl hy), hk, hm x h (kEq_refl x)⟩
    · obtain ⟨y, hy, hk, hm⟩ := (combine_comb l').has h
      exact ⟨y, List.mem_append.2 (.inr hy), hk, hm x h (kEq_refl x)⟩
  constructor
  · rintro ⟨h1, h2⟩
    refine ⟨?_, fun m' hm' hk => h2 m' (sub m' hm') hk⟩
    obtain ⟨y, hy, hk, hd⟩ := low m h1
    have := h2 y (sub y hy) hk
    have e : y = m := kEq_ext hk (by omega)
    rw [← e]; exact hy
  · rintro ⟨h1, h2⟩
    refine ⟨sub m h1, fun m' hm' hk => ?_⟩
    obtain ⟨y, hy, hk', hd⟩ := low m' hm'
    have := h2 y hy (kEq_trans hk' hk)
    omega

theorem combine_twice (l : List Msg) : combine (combine l) = combine l := by
  have := combine_parts l []
  simpa [combine] using this
end Go.Proofs.YtpdnipabaimofaaGreat

namespace Go.Proofs.YtpdnipabaimofaaGreat
open Go.RowKit

theorem compare_c (x y : Int) (w : World) : Calls Tryz.prog 72 #[.int .i64 x, .int .i64 y] w fun e w' => e = .returned (.int .i64 (Lib.compareInt x y)) ∧ w' = w := by
  unfold Lib.compareInt
  rcases Int.lt_trichotomy x y with h | h | h
  · rw [if_pos h]
    go_enter Tryz.func72, Tryz.ntmps72
    go_wp2_with (fail)
    refine (isNaN_c x _).mono ?_
    rintro e w1 ⟨rfl, rfl⟩
    go_wp2_with (fail)
    refine (isNaN_c y _).mono ?_
    rintro e w1 ⟨rfl, rfl⟩
    go_wp2_with (fail)
    go_ret
    exact ⟨rfl, rfl⟩
  · subst h
    rw [if_neg (by omega), if_neg (by omega)]
    go_enter Tryz.func72, Tryz.ntmps72
    go_wp2_with (fail)
    refine (isNaN_c x _).mono ?_
    rintro e w1 ⟨rfl, rfl⟩
    go_wp2_with (fail)
    refine (isNaN_c x _).mono ?_
    rintro e w1 ⟨rfl, rfl⟩
    go_wp2_with (fail)
    go_ret
    exact ⟨rfl, rfl⟩
  · have h' : ¬ x < y := by omega
    rw [if_neg h', if_pos h]
    go_enter Tryz.func72, Tryz.ntmps72
    go_wp2_with (fail)
    refine (isNaN_c x _).mono ?_
    rintro e w1 ⟨rfl, rfl⟩
    go_wp2_with (fail)
    refine (isNaN_c y _).mono ?_
    rintro e w1 ⟨rfl, rfl⟩
    go_wp2_with (fail)
    go_ret
    exact ⟨rfl, rfl⟩

/-- The first one that is not nought. -/
def or3 (x y z : Int) : Int := if x ≠ 0 then x else if y ≠ 0 then y else z

theorem or_c (x y z : Int) (b : Nat) (w : World) (h0 : w.cell? ⟨b, 0, none⟩ = some (.int .i64 x)) (h1 : w.cell? ⟨b, 1, none⟩ = some (.int .i64 y)) (h2 : w.cell? ⟨b, 2, none⟩ = some (.int .i64 z)) :
    Calls Tryz.prog 71 #[.slice (some ⟨b, 0, none⟩) 3 3] w fun e w' => e = .returned (.int .i64 (or3 x y z)) ∧ w' = w := by
  unfold or3
  by_cases hx : x = 0
  · by_cases hy : y = 0
    · by_cases hz : z = 0
      · subst hx hy hz
        go_enter Tryz.func71, Tryz.ntmps71
        go_wp2
        refine wp_loop_rounds 4 ?_
        repeat (rw [rounds_succ]; go_wp2)
        go_ret
        exact ⟨rfl, rfl⟩
      · subst hx hy
        go_enter Tryz.func71, Tryz.ntmps71
        go_wp2
        refine wp_loop_rounds 4 ?_
        repeat (rw [rounds_succ]; go_wp2)
        go_ret
        exact ⟨by simp, rfl⟩
    · subst hx
      go_enter Tryz.func71, Tryz.ntmps71
      go_wp2
      refine wp_loop_rounds 4 ?_
      repeat (rw [rounds_succ]; go_wp2)
      go_ret
      exact ⟨by simp, rfl⟩
  · go_enter Tryz.func71, Tryz.ntmps71
    go_wp2
    refine wp_loop_rounds 4 ?_
    repeat (rw [rounds_succ]; go_wp2)
    go_ret
    exact ⟨by simp, rfl⟩
end Go.Proofs.YtpdnipabaimofaaGreat

namespace Go.Proofs.YtpdnipabaimofaaGreat
open Go.RowKit Go.Shelf Go.Lib Go.Sort

def cmpM (x y : Msg) : Int := or3 (compareInt x.slot y.slot) (compareInt x.dir y.dir) (compareInt x.v y.v)

theorem two_boxes (W : World) (o1 o2 o3 o4 : Obj) :
    ((((W.alloc o1).alloc o2).alloc o3).alloc o4).drew.heap[W.heap.size + 1 + 1]? = some o3 ∧ ((((W.alloc o1).alloc o2).alloc o3).alloc o4).drew.heap[W.heap.size + 1 + 1 + 1]? = some o4 ∧
    ((((W.alloc o1).alloc o2).alloc o3).alloc o4).drew = grow (W.drewN 1) (((#[o1] ++ #[o2]) ++ #[o3]) ++ #[o4]) := by
  have s1 : (W.alloc o1).heap.size = W.heap.size + 1 := World.size_alloc _ _
  have s2 : ((W.alloc o1).alloc o2).heap.size = W.heap.size + 1 + 1 := by rw [World.size_alloc, s1]
  have s3 : (((W.alloc o1).alloc o2).alloc o3).heap.size = W.heap.size + 1 + 1 + 1 := by rw [World.size_alloc, s2]
  refine ⟨?_, ?_, ?_⟩
  · show ((((W.alloc o1).alloc o2).alloc o3).alloc o4).heap[W.heap.size + 1 + 1]? = some o3
    rw [Below.heap_alloc _ _ _ (by omega), ← s2]
    exact Array.getElem?_push_size
  · show ((((W.alloc o1).alloc o2).alloc o3).alloc o4).heap[W.heap.size + 1 + 1 + 1]? = some o4
    rw [← s3]
    exact Array.getElem?_push_size
  · simp only [grow, World.alloc, World.drew, World.drewN]
    have e : (((W.heap.push o1).push o2).push o3).push o4 = W.heap ++ (#[o1] ++ #[o2] ++ #[o3] ++ #[o4]) := by
      apply Array.ext'
      simp
    rw [e]

set_option maxRecDepth 100000 in
set_option maxHeartbeats 2000000 in
theorem order_c (x y : Msg) (W : World) : Calls Tryz.prog 109 #[.agg (mc x).toArray, .agg (mc y).toArray] W fun e w' => e = .returned (.int .i64 (cmpM x y)) ∧ ∃ q os', w' = grow (W.drewN q) os' := by
  unfold mc
  go_enter Tryz.func109, Tryz.ntmps109
  go_wp2_with (fail)
  go_region
  all_goals go_wp2_with (fail)
  · obtain ⟨h1, h2, h3⟩ := two_boxes W (.cells #[.int .i64 x.slot, .int .i64 x.dir, .int .i64 x.v, .int .i64 x.d] 79) (.cells #[.int .i64 y.slot, .int .i64 y.dir, .int .i64 y.v, .int .i64 y.d] 79)
      (.cells #[.int .i64 x.slot, .int .i64 x.dir, .int .i64 x.v] 77) (.cells #[.int .i64 y.slot, .int .i64 y.dir, .int .i64 y.v] 77)
    generalize ((((W.alloc (.cells #[.int .i64 x.slot, .int .i64 x.dir, .int .i64 x.v, .int .i64 x.d] 79)).alloc (.cells #[.int .i64 y.slot, .int .i64 y.dir, .int .i64 y.v, .int .i64 y.d] 79)).alloc
      (.cells #[.int .i64 x.slot, .int .i64 x.dir, .int .i64 x.v] 77)).alloc (.cells #[.int .i64 y.slot, .int .i64 y.dir, .int .i64 y.v] 77)).drew = w2 at h1 h2 h3 ⊢
    have a0 : w2.cell? ⟨W.heap.size + 1 + 1, 0, none⟩ = some (.int .i64 x.slot) := by rw [Lib.cell_of_heap h1]; rfl
    have a1 : w2.cell? ⟨W.heap.size + 1 + 1, 1, none⟩ = some (.int .i64 x.dir) := by rw [Lib.cell_of_heap h1]; rfl
    have a2 : w2.cell? ⟨W.heap.size + 1 + 1, 2, none⟩ = some (.int .i64 x.v) := by rw [Lib.cell_of_heap h1]; rfl
    have b0 : w2.cell? ⟨W.heap.size + 1 + 1 + 1, 0, none⟩ = some (.int .i64 y.slot) := by rw [Lib.cell_of_heap h2]; rfl
    have b1 : w2.cell? ⟨W.heap.size + 1 + 1 + 1, 1, none⟩ = some (.int .i64 y.dir) := by rw [Lib.cell_of_heap h2]; rfl
    have b2 : w2.cell? ⟨W.heap.size + 1 + 1 + 1, 2, none⟩ = some (.int .i64 y.v) := by rw [Lib.cell_of_heap h2]; rfl
    have H3 : Hid (w2.drew = grow (W.drewN 2) _) := show w2.drew = _ from by rw [h3]; rfl
    clear h1 h2 h3
    refine wp_region_still_tail 15 (by kernel_rfl) (by kernel_rfl) ?_
    simp only [List.take_succ_cons, List.take_zero, List.drop_succ_cons, List.drop_zero]
    obtain ⟨w3, hw3⟩ : ∃ w3, w3 = w2.drew := ⟨_, rfl⟩
    change w2.drew.cell? _ = _ at a0 a1 a2 b0 b1 b2
    rw [← hw3] at a0 a1 a2 b0 b1 b2 H3
    change wpStill _ _ w2.drew _ _ _
    change wpStill _ _ w2.drew (fun a' => wpList _ _ _ _ a' w2.drew) _ _
    rw [← hw3]
    clear hw3
    repeat still_step
    still_call (compare_c _ _ _)
    repeat still_step
    still_call (compare_c _ _ _)
    repeat still_step
    still_call (compare_c _ _ _)
    refine wpStill_nil ?_
    go_wp2_with (fail)
    have hn : (w3.alloc (.cells #[.int .i64 (compareInt x.slot y.slot), .int .i64 (compareInt x.dir y.dir), .int .i64 (compareInt x.v y.v)] 3)).heap[w3.heap.size]? = some (.cells #[.int .i64 (compareInt x.slot y.slot), .int .i64 (compareInt x.dir y.dir), .int .i64 (compareInt x.v y.v)] 3) := Array.getElem?_push_size
    refine (or_c _ _ _ _ _ (by rw [Lib.cell_of_heap hn]; rfl) (by rw [Lib.cell_of_heap hn]; rfl) (by rw [Lib.cell_of_heap hn]; rfl)).mono ?_
    rintro e w4 ⟨rfl, rfl⟩
    go_wp2_with (fail)
    go_ret
    obtain ⟨os3, H4⟩ : ∃ os, w3 = grow (W.drewN 2) os := ⟨_, H3.out⟩
    clear H3 a0 a1 a2 b0 b1 b2 hn
    subst H4
    exact ⟨rfl, 2, _, (alloc_eq_grow _ _).trans (grow_grow _ _ _)⟩
  · obtain ⟨h1, h2, h3⟩ := two_boxes W (.cells #[.int .i64 x.slot, .int .i64 x.dir, .int .i64 x.v, .int .i64 x.d] 79) (.cells #[.int .i64 y.slot, .int .i64 y.dir, .int .i64 y.v, .int .i64 y.d] 79)
      (.cells #[.int .i64 y.slot, .int .i64 y.dir, .int .i64 y.v] 77) (.cells #[.int .i64 x.slot, .int .i64 x.dir, .int .i64 x.v] 77)
    generalize ((((W.alloc (.cells #[.int .i64 x.slot, .int .i64 x.dir, .int .i64 x.v, .int .i64 x.d] 79)).alloc (.cells #[.int .i64 y.slot, .int .i64 y.dir, .int .i64 y.v, .int .i64 y.d] 79)).alloc
      (.cells #[.int .i64 y.slot, .int .i64 y.dir, .int .i64 y.v] 77)).alloc (.cells #[.int .i64 x.slot, .int .i64 x.dir, .int .i64 x.v] 77)).drew = w2 at h1 h2 h3 ⊢
    have a0 : w2.cell? ⟨W.heap.size + 1 + 1, 0, none⟩ = some (.int .i64 y.slot) := by rw [Lib.cell_of_heap h1]; rfl
    have a1 : w2.cell? ⟨W.heap.size + 1 + 1, 1, none⟩ = some (.int .i64 y.dir) := by rw [Lib.cell_of_heap h1]; rfl
    have a2 : w2.cell? ⟨W.heap.size + 1 + 1, 2, none⟩ = some (.int .i64 y.v) := by rw [Lib.cell_of_heap h1]; rfl
    have b0 : w2.cell? ⟨W.heap.size + 1 + 1 + 1, 0, none⟩ = some (.int .i64 x.slot) := by rw [Lib.cell_of_heap h2]; rfl
    have b1 : w2.cell? ⟨W.heap.size + 1 + 1 + 1, 1, none⟩ = some (.int .i64 x.dir) := by rw [Lib.cell_of_heap h2]; rfl
    have b2 : w2.cell? ⟨W.heap.size + 1 + 1 + 1, 2, none⟩ = some (.int .i64 x.v) := by rw [Lib.cell_of_heap h2]; rfl
    have H3 : Hid (w2.drew = grow (W.drewN 2) _) := show w2.drew = _ from by rw [h3]; rfl
    clear h1 h2 h3
    refine wp_region_still_tail 15 (by kernel_rfl) (by kernel_rfl) ?_
    simp only [List.take_succ_cons, List.take_zero, List.drop_succ_cons, List.drop_zero]
    obtain ⟨w3, hw3⟩ : ∃ w3, w3 = w2.drew := ⟨_, rfl⟩
    change w2.drew.cell? _ = _ at a0 a1 a2 b0 b1 b2
    rw [← hw3] at a0 a1 a2 b0 b1 b2 H3
    change wpStill _ _ w2.drew _ _ _
    change wpStill _ _ w2.drew (fun a' => wpList _ _ _ _ a' w2.drew) _ _
    rw [← hw3]
    clear hw3
    repeat still_step
    still_call (compare_c _ _ _)
    repeat still_step
    still_call (compare_c _ _ _)
    repeat still_step
    still_call (compare_c _ _ _)
    refine wpStill_nil ?_
    go_wp2_with (fail)
    have hn : (w3.alloc (.cells #[.int .i64 (compareInt x.slot y.slot), .int .i64 (compareInt x.dir y.dir), .int .i64 (compareInt x.v y.v)] 3)).heap[w3.heap.size]? = some (.cells #[.int .i64 (compareInt x.slot y.slot), .int .i64 (compareInt x.dir y.dir), .int .i64 (compareInt x.v y.v)] 3) := Array.getElem?_push_size
    refine (or_c _ _ _ _ _ (by rw [Lib.cell_of_heap hn]; rfl) (by rw [Lib.cell_of_heap hn]; rfl) (by rw [Lib.cell_of_heap hn]; rfl)).mono ?_
    rintro e w4 ⟨rfl, rfl⟩
    go_wp2_with (fail)
    go_ret
    obtain ⟨os3, H4⟩ : ∃ os, w3 = grow (W.drewN 2) os := ⟨_, H3.out⟩
    clear H3 a0 a1 a2 b0 b1 b2 hn
    subst H4
    exact ⟨rfl, 2, _, (alloc_eq_grow _ _).trans (grow_grow _ _ _)⟩
end Go.Proofs.YtpdnipabaimofaaGreat
