/-
  Words for memory: a slice value that reads as a list of cells; how it is kept. (First part turned from the guide's words for memory.)
-/
import Derived.WalkKit
import Derived.Lib.Hide
import Derived.Laws.OwnMore
import Derived.Deep.AppendLies
import Derived.Deep.Draws
import Derived.Maps.AppendAt
import Derived.RegionTactic
namespace Go.Proofs.Ytmnjlhifjjainaa
open Go.RowKit

theorem ret_int {k : IntKind} {a b : Int} (h : a = b) : Ending.returned (.int k a) = .returned (.int k b) := by rw [h]
theorem ret_bool {a b : Bool} (h : a = b) : Ending.returned (.bool a) = .returned (.bool b) := by rw [h]
theorem ret_val {a b : Value} (h : a = b) : Ending.returned a = .returned b := by rw [h]
theorem ret_int2 {k : IntKind} {a b : Int} {v : Value} (h : a = b) : Ending.returned (.tuple #[.int k a, v]) = .returned (.tuple #[.int k b, v]) := by rw [h]

theorem below_drewN {B : Nat} {a w : World} (h : Below B a w) (n : Nat) : Below B a (w.drewN n) := ⟨h.os, h.tape, h.output, h.size, h.block⟩

theorem only_refl (a : World) (row : Option Nat) : a.grownBy a row := ⟨rfl, rfl, rfl, Nat.le_refl _, fun _ _ _ => rfl⟩
theorem only_drewN {a w : World} {row : Option Nat} (h : a.grownBy w row) (n : Nat) : a.grownBy (w.drewN n) row := ⟨h.os, h.tape, h.output, h.size, h.block⟩
theorem only_drew {a w : World} {row : Option Nat} (h : a.grownBy w row) : a.grownBy w.drew row := ⟨h.os, h.tape, h.output, h.size, h.block⟩
theorem only_alloc {a w : World} {row : Option Nat} (h : a.grownBy w row) (o : Obj) : a.grownBy (w.alloc o) row :=
  ⟨h.os, h.tape, h.output, Nat.le_trans h.size (by simp), fun i hi hne => (Below.heap_alloc w o i (Nat.lt_of_lt_of_le hi h.size)).trans (h.block i hi hne)⟩
theorem only_setCell {a w : World} {g : Nat} (h : a.grownBy w (some g)) {p : Addr} (hp : p.block = g ∨ a.heap.size ≤ p.block) (u : Value) : a.grownBy (w.setCell p u) (some g) :=
  ⟨h.os, h.tape, h.output, by simpa [World.setCell] using h.size, fun i hi hne => (Below.heap_setCell w p u i (by
    rintro rfl
    rcases hp with hp | hp
    · exact hne (by rw [hp])
    · omega)).trans (h.block i hi hne)⟩
theorem only_of_below {a w : World} (h : Below a.heap.size a w) (row : Option Nat) : a.grownBy w row := ⟨h.os, h.tape, h.output, h.size, fun i hi _ => h.block i hi⟩
theorem only_grown {a w w' : World} {row row' : Option Nat} (h : a.grownBy w row) (k : w.grownBy w' row') (hr : ∀ g, row' = some g → a.heap.size ≤ g) : a.grownBy w' row :=
  ⟨k.os.trans h.os, k.tape.trans h.tape, k.output.trans h.output, Nat.le_trans h.size k.size, fun i hi hne => (k.block i (Nat.lt_of_lt_of_le hi h.size) (fun e => by have := hr i e.symm; omega)).trans (h.block i hi hne)⟩
theorem only_trans_below {a w w' : World} {row : Option Nat} (h : a.grownBy w row) (k : Below a.heap.size w w') : a.grownBy w' row :=
  ⟨k.os.trans h.os, k.tape.trans h.tape, k.output.trans h.output, Nat.le_trans h.size k.size, fun i hi hne => (k.block i hi).trans (h.block i hi hne)⟩
theorem only_cell {a w : World} {row : Option Nat} (h : a.grownBy w row) {p : Addr} (hp : p.block < a.heap.size) (hne : some p.block ≠ row) : w.cell? p = a.cell? p := World.cell?_of_block (h.block p.block hp hne)
theorem only_frozen {a w : World} {row : Option Nat} (h : a.grownBy w row) {p : Addr} (hp : p.block < a.heap.size) (hne : some p.block ≠ row) : w.frozen? p = a.frozen? p := World.frozen?_of_block (h.block p.block hp hne)
theorem only_below {a w : World} {g : Nat} (h : a.grownBy w (some g)) {B : Nat} (h1 : B ≤ g) (h2 : B ≤ a.heap.size) : Below B a w :=
  ⟨h.os, h.tape, h.output, h.size, fun k hk => h.block k (by omega) (fun e => by injection e; omega)⟩
theorem block_lt_of_cell {w : World} {p : Addr} {v : Value} (h : w.cell? p = some v) : p.block < w.heap.size := World.block_lt_of_cell? w p h

/-- A slice's length, for a loop's measure. -/
def slLen : Value → Nat | .slice _ k _ => k | _ => 0

/-- Integers as cells. -/
def iv (l : List Int) : List Value := l.map (Value.int .i64)

theorem iv_get {l : List Int} {k : Nat} {u : Value} (h : (iv l)[k]? = some u) : ∃ x, l[k]? = some x ∧ u = .int .i64 x := by
  unfold iv at h
  rw [List.getElem?_map] at h
  cases hl : l[k]? with
  | none => rw [hl] at h; cases h
  | some x => rw [hl] at h; exact ⟨x, rfl, by cases h; rfl⟩
theorem iv_nil : iv [] = [] := rfl
theorem iv_append (l m : List Int) : iv (l ++ m) = iv l ++ iv m := by simp [iv]
theorem iv_len (l : List Int) : (iv l).length = l.length := by simp [iv]
theorem one_int (k : IntKind) (x : Int) : ∀ u ∈ (#[Value.int k x] : Array Value).toList, u.oneCell' = true := by intro u hu; simp at hu; subst hu; rfl
theorem one_str (x : ByteArray) : ∀ u ∈ (#[Value.string x] : Array Value).toList, u.oneCell' = true := by intro u hu; simp at hu; subst hu; rfl
theorem one_slice (A : Option Addr) (n c : Nat) : ∀ u ∈ (#[Value.slice A n c] : Array Value).toList, u.oneCell' = true := by intro u hu; simp at hu; subst hu; rfl
theorem iv_one (l : List Int) : ∀ u ∈ iv l, u.oneCell' = true := ints_oneCell _ _

/-- Rows of things of several cells each. -/
theorem flat_len {α β : Type} (f : α → List β) (z : Nat) (hf : ∀ a, (f a).length = z) : ∀ l : List α, (l.flatMap f).length = l.length * z
  | [] => by simp
  | a :: l => by rw [List.flatMap_cons, List.length_append, hf, flat_len f z hf l, List.length_cons, Nat.add_mul]; omega
theorem flat_drop {α β : Type} (f : α → List β) (z : Nat) (hf : ∀ a, (f a).length = z) : ∀ (l : List α) (q : Nat), (l.flatMap f).drop (q * z) = (l.drop q).flatMap f
  | l, 0 => by simp
  | [], q + 1 => by simp
  | a :: l, q + 1 => by
    rw [List.flatMap_cons, List.drop_succ_cons, ← flat_drop f z hf l q, show (q + 1) * z = (f a).length + q * z by rw [hf, Nat.add_mul]; omega, List.drop_length_add_append]
theorem flat_take {α β : Type} (f : α → List β) (z : Nat) (hf : ∀ a, (f a).length = z) : ∀ (l : List α) (q : Nat), (l.flatMap f).take (q * z) = (l.take q).flatMap f
  | l, 0 => by simp
  | [], q + 1 => by simp
  | a :: l, q + 1 => by
    rw [List.flatMap_cons, List.take_succ_cons, List.flatMap_cons, ← flat_take f z hf l q, show (q + 1) * z = (f a).length + q * z by rw [hf, Nat.add_mul]; omega, List.take_length_add_append]
theorem flat_get {α β : Type} (f : α → List β) (z : Nat) (hf : ∀ a, (f a).length = z) (l : List α) (q r : Nat) (x : α) (hx : l[q]? = some x) (hr : r < z) : (l.flatMap f)[q * z + r]? = (f x)[r]? := by
  have h1 : (l.flatMap f)[q * z + r]? = ((l.flatMap f).drop (q * z))[r]? := by rw [List.getElem?_drop]
  obtain ⟨hq, he⟩ := List.getElem?_eq_some_iff.1 hx
  rw [h1, flat_drop f z hf, List.drop_eq_getElem_cons hq, he, List.flatMap_cons, List.getElem?_append_left (by rw [hf]; exact hr)]
theorem flat_erase {α β : Type} (f : α → List β) (z : Nat) (hf : ∀ a, (f a).length = z) (l : List α) (q : Nat) : (l.flatMap f).take (q * z) ++ (l.flatMap f).drop ((q + 1) * z) = (l.eraseIdx q).flatMap f := by
  rw [flat_take f z hf, flat_drop f z hf, List.eraseIdx_eq_take_drop_succ, List.flatMap_append]

/-- A message. -/
structure Msg where
  slot : Int
  dir : Int
  v : Int
  d : Int

theorem Msg.eq_iff (a b : Msg) : a = b ↔ a.slot = b.slot ∧ a.dir = b.dir ∧ a.v = b.v ∧ a.d = b.d := by
  cases a; cases b; simp
instance : DecidableEq Msg := fun a b => decidable_of_iff _ (Msg.eq_iff a b).symm

def mc (m : Msg) : List Value := [.int .i64 m.slot, .int .i64 m.dir, .int .i64 m.v, .int .i64 m.d]
def mv (l : List Msg) : List Value := l.flatMap mc
theorem mc_len (m : Msg) : (mc m).length = 4 := rfl
theorem mv_len (l : List Msg) : (mv l).length = l.length * 4 := flat_len mc 4 mc_len l
theorem mv_append (l m : List Msg) : mv (l ++ m) = mv l ++ mv m := List.flatMap_append
theorem mc_one (m : Msg) : ∀ u ∈ mc m, u.oneCell' = true := by
  intro u hu
  simp only [mc, List.mem_cons, List.not_mem_nil, or_false] at hu
  rcases hu with rfl | rfl | rfl | rfl <;> rfl
theorem mv_one (l : List Msg) : ∀ u ∈ mv l, u.oneCell' = true := by
  intro u hu
  obtain ⟨m, _, hm⟩ := List.mem_flatMap.1 hu
  exact mc_one m u hm
theorem mv_erase (l : List Msg) (q : Nat) : (mv l).take (q * 4) ++ (mv l).drop ((q + 1) * 4) = mv (l.eraseIdx q) := flat_erase mc 4 mc_len l q

/-- A slice whose address is A and whose length is n reads as the cells xs, below block B. -/
def Reads (w : World) (B size : Nat) (A : Option Addr) (n : Nat) (xs : List Value) : Prop :=
  xs.length = n * size ∧ (0 < n → ∃ b o, A = some ⟨b, o, none⟩ ∧ b < B ∧ ∀ j u, xs[j]? = some u → w.cell? ⟨b, o + j, none⟩ = some u)

section
variable {w w' : World} {B B' size n : Nat} {A : Option Addr} {xs : List Value}
theorem Reads.none_ : Reads w B size A 0 [] := ⟨by simp, fun h => absurd h (by omega)⟩
theorem Reads.keep (h : Reads w B size A n xs) (hk : ∀ p : Addr, p.block < B → w'.cell? p = w.cell? p) : Reads w' B size A n xs :=
  ⟨h.1, fun hn => by
    obtain ⟨b, o, e, hb, hc⟩ := h.2 hn
    exact ⟨b, o, e, hb, fun j u hu => (hk _ hb).trans (hc j u hu)⟩⟩
theorem Reads.more (h : Reads w B size A n xs) (hB : B ≤ B') : Reads w B' size A n xs :=
  ⟨h.1, fun hn => by
    obtain ⟨b, o, e, hb, hc⟩ := h.2 hn
    exact ⟨b, o, e, by omega, hc⟩⟩
theorem Reads.below (h : Reads w B size A n xs) (hb : Below B w w') : Reads w' B size A n xs := h.keep fun _ hp => hb.cell hp
/-- What a cut 's[k:]' reads as: where something is left its address is known. -/
theorem Reads.cut (h : Reads w B size A n xs) {k : Nat} {A' : Option Addr} (hk : k ≤ n) (hA : k < n → ∀ b o, A = some ⟨b, o, none⟩ → A' = some ⟨b, o + k * size, none⟩) :
    Reads w B size A' (n - k) (xs.drop (k * size)) := by
  refine ⟨by rw [List.length_drop, h.1, Nat.sub_mul], fun hn => ?_⟩
  obtain ⟨b, o, rfl, hb, hcell⟩ := h.2 (by omega)
  refine ⟨b, o + k * size, hA (by omega) b o rfl, hb, fun j u hu => ?_⟩
  rw [Nat.add_assoc]
  exact hcell _ u (by rw [← hu, List.getElem?_drop])
theorem Reads.first (h : Reads w B size A n xs) {k : Nat} (hk : k ≤ n) : Reads w B size A k (xs.take (k * size)) := by
  refine ⟨by rw [List.length_take, h.1]; exact Nat.min_eq_left (Nat.mul_le_mul_right _ hk), fun hn => ?_⟩
  obtain ⟨b, o, e, hb, hcell⟩ := h.2 (by omega)
  refine ⟨b, o, e, hb, fun j u hu => hcell j u ?_⟩
  rw [List.getElem?_take] at hu
  split at hu
  · exact hu
  · cases hu
theorem Reads.of_own {base : Nat} {e : TypeId} {c : Nat} (h : w.ownsRow base e size (.slice A n c) n xs) : Reads w w.heap.size size A n xs := by
  refine ⟨h.1, fun hn => ?_⟩
  obtain ⟨g, cap, hv, _, hlt⟩ := h.form hn
  have hA : A = some ⟨g, 0, none⟩ := by injection hv
  subst hA
  refine ⟨g, 0, rfl, hlt, fun j u hu => ?_⟩
  have := h.cells (g := g) rfl j u hu
  rwa [Addr.add_lit] at this
theorem reads_lit (w : World) (zs : List Int) (e : TypeId) : Reads (w.alloc (.cells (iv zs).toArray e)) (w.heap.size + 1) 1 (some ⟨w.heap.size, 0, none⟩) zs.length (iv zs) := by
  refine ⟨by simp [iv], fun _ => ⟨_, _, rfl, by omega, fun j u hu => ?_⟩⟩
  rw [cell_of_row _ _ _ (iv zs).toArray e (0, 0) (heap_alloc_new w _)]
  simpa using hu
theorem Reads.grown_ (h : Reads w B size A n xs) {row : Option Nat} (hg : w.grownBy w' row) (hB : B ≤ w.heap.size) (hr : 0 < n → ∀ a, A = some a → some a.block ≠ row) : Reads w' B size A n xs :=
  ⟨h.1, fun hn => by
    obtain ⟨b, o, e, hb, hc⟩ := h.2 hn
    exact ⟨b, o, e, hb, fun j u hu => (World.cell?_of_block (a := ⟨b, o + j, none⟩) (hg.block b (by omega) (hr hn _ e))).trans (hc j u hu)⟩⟩
theorem Reads.lt_ (h : Reads w B size A n xs) (hn : 0 < n) : ∀ a, A = some a → a.block < B := by
  obtain ⟨b, o, e, hb, _⟩ := h.2 hn
  intro a ha
  rw [e] at ha
  cases ha
  exact hb
theorem Reads.int_at {xs : List Int} {k : Nat} (h : Reads w B 1 A n (iv xs)) (hk : k < n) :
    ∃ b o x, A = some ⟨b, o, none⟩ ∧ Hid (xs[k]? = some x) ∧ w.cell? ⟨b, o + k, none⟩ = some (.int .i64 x) := by
  obtain ⟨b, o, e, _, hc⟩ := h.2 (by omega)
  have hl : xs.length = n := by have := h.1; simpa [iv] using this
  have hx : xs[k]? = some (xs[k]'(by omega)) := List.getElem?_eq_getElem (by omega)
  exact ⟨b, o, _, e, hx, hc k _ (by simp [iv, hx])⟩
theorem Reads.int_len {xs : List Int} (h : Reads w B 1 A n (iv xs)) : xs.length = n := by
  have := h.1; simpa [iv] using this
theorem Reads.mail_len {xs : List Msg} (h : Reads w B 4 A n (mv xs)) : xs.length = n := by
  have := h.1; rw [mv_len] at this; omega
theorem Reads.mail_at {xs : List Msg} {k : Nat} (h : Reads w B 4 A n (mv xs)) (hk : k < n) :
    ∃ b o m, A = some ⟨b, o, none⟩ ∧ Hid (xs[k]? = some m) ∧ w.cell? ⟨b, o + k * 4, none⟩ = some (.int .i64 m.slot) ∧ w.cell? ⟨b, o + k * 4 + 1, none⟩ = some (.int .i64 m.dir) ∧ w.cell? ⟨b, o + k * 4 + 2, none⟩ = some (.int .i64 m.v) ∧ w.cell? ⟨b, o + k * 4 + 3, none⟩ = some (.int .i64 m.d) := by
  have hl := h.mail_len
  obtain ⟨b, o, e, _, hc⟩ := h.2 (by omega)
  have hx : xs[k]? = some (xs[k]'(by omega)) := List.getElem?_eq_getElem (by omega)
  have hf := fun r hr => flat_get mc 4 mc_len xs k r _ hx hr
  exact ⟨b, o, _, e, hx, hc _ _ (hf 0 (by omega)), by rw [Nat.add_assoc]; exact hc _ _ (hf 1 (by omega)), by rw [Nat.add_assoc]; exact hc _ _ (hf 2 (by omega)), by rw [Nat.add_assoc]; exact hc _ _ (hf 3 (by omega))⟩
end

/-- A slice of integers that came in (as the shells of the laws have it). -/
def IsRow (k : IntKind) (w : World) (a : Option Addr) (len cap : Nat) (zs : List Int) : Prop :=
  (a = none ∧ len = 0 ∧ cap = 0 ∧ zs = []) ∨
  ∃ x, a = some x ∧ len ≤ cap ∧ cap ≤ maxLen ∧ zs.length = cap ∧ (∀ i, i < zs.length → w.cell? (x.add i) = some (.int k (zs.getD i 0))) ∧ ∀ n ∈ zs, (Lit.int k n).wf = true

theorem addr_of_cell {w : World} {a : Addr} {v : Value} (h : w.cell? a = some v) : ∃ b o, a = ⟨b, o, none⟩ := by
  obtain ⟨b, o, spot⟩ := a
  have hspot : spot = none := World.cell?_spot h
  exact ⟨b, o, by rw [hspot]⟩

theorem IsRow.reads {w : World} {a : Option Addr} {len cap : Nat} {zs : List Int} (h : IsRow .i64 w a len cap zs) : Reads w w.heap.size 1 a len (iv (zs.take len)) ∧ len ≤ maxLen := by
  rcases h with ⟨rfl, rfl, rfl, rfl⟩ | ⟨x, rfl, h1, h2, h3, h4, _⟩
  · exact ⟨Reads.none_, by simp [maxLen]⟩
  · refine ⟨⟨by rw [iv_len, List.length_take]; omega, fun hn => ?_⟩, by omega⟩
    have h0 := h4 0 (by omega)
    rw [show x.add 0 = x by simp [Addr.add]] at h0
    obtain ⟨b, o, rfl⟩ := addr_of_cell h0
    refine ⟨b, o, rfl, World.block_lt_of_cell? w _ h0, fun j u hu => ?_⟩
    obtain ⟨z, hz, rfl⟩ := iv_get hu
    rw [List.getElem?_take] at hz
    split at hz
    · have h5 := h4 j (by omega)
      rw [Addr.add_lit] at h5
      rw [h5, List.getD_eq_getElem?_getD, hz]; rfl
    · cases hz
end Go.Proofs.Ytmnjlhifjjainaa
