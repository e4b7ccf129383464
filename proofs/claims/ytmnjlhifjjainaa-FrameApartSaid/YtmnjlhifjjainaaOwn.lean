/-
  Rows of the call's own: what an append, a copy leaves, in the form that the walks take.
-/
import Derived.Test.YtmnjlhifjjainaaMem
import Derived.Laws.CopyOwn
import Derived.OwnWalk
namespace Go.Proofs.Ytmnjlhifjjainaa
open Go.RowKit

/-- Slice type t has elements of type e: so many cells, so many bytes. -/
structure Elem (P : Program) (t e : TypeId) (size bytes : Nat) : Prop where
  under : P.underlying t = some (.slice e)
  info : ∃ i z, P.info? e = some i ∧ i.zero = some z ∧ i.size = size ∧ i.bytes = bytes ∧ z.cells.size = size
  pos : 0 < size

theorem Elem.mk_ {P : Program} {t e : TypeId} {z : Value} {size bytes : Nat} (h1 : P.underlying t = some (.slice e)) (h2 : (P.info? e).map (fun i => (i.zero, i.size, i.bytes)) = some (some z, size, bytes))
    (h3 : z.cells.size = size) (h4 : 0 < size) : Elem P t e size bytes := by
  obtain ⟨i, a, b, c, d⟩ := info_parts h2
  exact ⟨h1, ⟨i, z, a, b, c, d, h3⟩, h4⟩

/-- Where two slices lie in blocks of their own. -/
def Apart (A A' : Option Addr) : Prop := ∀ a b, A = some a → A' = some b → a.block ≠ b.block

/-- What an append leaves: nothing but the row itself has turned, or a new row was made. -/
structure Pushed (w w' : World) (A A' : Option Addr) : Prop where
  grown : w.grownBy w' (A.map (·.block))
  at_ : ∀ a, A' = some a → (∃ b, A = some b ∧ b.block = a.block) ∨ w.heap.size ≤ a.block

section
variable {w w' : World} {B base e size n c m c' : Nat} {A A' C : Option Addr} {xs ys : List Value}

theorem own_form {v : Value} (h : w.ownsRow base e size v n xs) : ∃ A c, v = .slice A n c ∧ n ≤ c ∧ c ≤ maxLen ∧ ∀ a, A = some a → base ≤ a.block ∧ a.block < w.heap.size := by
  rcases h.2 with ⟨rfl, rfl⟩ | ⟨g, cap, cur, rfl, hb, hg, h1, h2, _⟩
  · exact ⟨none, 0, rfl, Nat.le_refl _, by simp [maxLen], fun a h => by cases h⟩
  · exact ⟨_, cap, rfl, h1, h2, fun a h => by cases h; exact ⟨hb, (Array.getElem?_eq_some_iff.1 hg).1⟩⟩

theorem own_cap (h : w.ownsRow base e size (.slice A n c) n xs) : n ≤ c ∧ c ≤ maxLen := by
  obtain ⟨A1, c1, h1, h2, h3, _⟩ := own_form h
  cases h1
  exact ⟨h2, h3⟩
theorem own_lt (h : w.ownsRow base e size (.slice A n c) n xs) : ∀ a, A = some a → base ≤ a.block ∧ a.block < w.heap.size := by
  obtain ⟨A1, c1, h1, _, _, h4⟩ := own_form h
  cases h1
  exact h4
theorem own_block : (Value.slice A n c).ownBlock = A.map (·.block) := by cases A <;> rfl

theorem own_len (h : w.ownsRow base e size (.slice A n c) n xs) : xs.length = n * size := h.1

theorem own_more (h : w.ownsRow B e size (.slice A n c) n xs) (hb : base ≤ B) : w.ownsRow base e size (.slice A n c) n xs := by
  refine ⟨h.1, ?_⟩
  rcases h.2 with h2 | ⟨g, cap, cur, h1, h2, h3⟩
  · exact .inl h2
  · exact .inr ⟨g, cap, cur, h1, Nat.le_trans hb h2, h3⟩

/-- What lies apart from the row that an append wrote is kept. -/
theorem Pushed.keep {e' size' : Nat} (p : Pushed w w' A A') (h : w.ownsRow base e' size' (.slice C m c) m ys) (ap : Apart C A) : w'.ownsRow base e' size' (.slice C m c) m ys := by
  refine h.kept p.grown ?_
  rw [own_block]
  cases hC : C with
  | none => exact .inl rfl
  | some a =>
    refine .inr ?_
    cases hA : A with
    | none => simp
    | some b => simpa using ap a b hC hA

theorem Pushed.apart {e' size' : Nat} (p : Pushed w w' A A') (h : w.ownsRow base e' size' (.slice C m c) m ys) (ap : Apart C A) : Apart C A' := by
  intro a b ha hb
  rcases p.at_ b hb with ⟨d, hd, hdb⟩ | hge
  · rw [← hdb]; exact ap a d ha hd
  · have := (own_lt h a ha).2; omega

/-- A reader below B stays apart. -/
theorem Pushed.below (p : Pushed w w' A A') (h : w.ownsRow base e size (.slice A n c) n xs) {W : World} (hW : Below B W w) (hb : B ≤ base) (hs : B ≤ w.heap.size) : Below B W w' := by
  refine hW.grown p.grown hs ?_
  intro k hk
  cases hA : A with
  | none => rw [hA] at hk; simp at hk
  | some a =>
    rw [hA] at hk
    simp at hk
    have := (own_lt h a hA).1
    omega

theorem Pushed.below0 (p : Pushed w w' none A') {W : World} (hW : Below B W w) (hs : B ≤ w.heap.size) : Below B W w' :=
  hW.grown p.grown hs (fun k hk => by simp at hk)

theorem Pushed.only {a : World} {row : Option Nat} (p : Pushed w w' A A') (h : a.grownBy w row) (hA : ∀ x, A = some x → a.heap.size ≤ x.block) : a.grownBy w' row :=
  only_grown h p.grown (fun g hg => by
    cases hAA : A with
    | none => rw [hAA] at hg; simp at hg
    | some x => rw [hAA] at hg; simp at hg; have := hA x hAA; omega)

theorem Pushed.larger (p : Pushed w w' A A') : w.heap.size ≤ w'.heap.size := p.grown.size

theorem Apart.none_right : Apart A none := fun _ _ _ h => by cases h
theorem Apart.none_left : Apart none A := fun _ _ h => by cases h
theorem Apart.symm (h : Apart A A') : Apart A' A := fun a b ha hb e => h b a hb ha e.symm
/-- A row from B on lies apart from one whose blocks are below B. -/
theorem apart_of_lt {e' size' : Nat} (h : w.ownsRow base e size (.slice A n c) n xs) (h' : w'.ownsRow B e' size' (.slice A' m c') m ys) (hlt : w.heap.size ≤ B) : Apart A A' := fun a b ha hb => by
  have := (own_lt h a ha).2
  have := (own_lt h' b hb).1
  omega

theorem own_reads (h : w.ownsRow base e size (.slice A n c) n xs) : Reads w w.heap.size size A n xs := Reads.of_own h

theorem own_below (h : w.ownsRow base e size (.slice A n c) n xs) (hB : Below w.heap.size w w') : w'.ownsRow base e size (.slice A n c) n xs :=
  h.kept (row := none) ⟨hB.os, hB.tape, hB.output, hB.size, fun k hk _ => hB.block k hk⟩ (by cases h : (Value.slice A n c).ownBlock <;> simp)

theorem own_int_at {g k : Nat} {zs : List Int} (h : w.ownsRow base e 1 (.slice (some ⟨g, 0, none⟩) n c) n (iv zs)) (hk : k < n) : ∃ x, Hid (zs[k]? = some x) ∧ w.cell? ⟨g, k, none⟩ = some (.int .i64 x) := by
  have hl : zs.length = n := by have := h.1; simpa [iv] using this
  refine ⟨zs[k]'(by omega), List.getElem?_eq_getElem (by omega), ?_⟩
  rw [h.cellAt k (by omega)]
  simp [iv, show k < zs.length by omega]
theorem own_mail_at {g k : Nat} {zs : List Msg} (h : w.ownsRow base e 4 (.slice (some ⟨g, 0, none⟩) n c) n (mv zs)) (hk : k < n) :
    ∃ m, Hid (zs[k]? = some m) ∧ w.cell? ⟨g, k * 4, none⟩ = some (.int .i64 m.slot) ∧ w.cell? ⟨g, k * 4 + 1, none⟩ = some (.int .i64 m.dir) ∧ w.cell? ⟨g, k * 4 + 2, none⟩ = some (.int .i64 m.v) ∧ w.cell? ⟨g, k * 4 + 3, none⟩ = some (.int .i64 m.d) := by
  have hl : zs.length = n := by have := h.1; rw [mv_len] at this; omega
  have hx : zs[k]? = some (zs[k]'(by omega)) := List.getElem?_eq_getElem (by omega)
  have hf := fun r hr => flat_get mc 4 mc_len zs k r _ hx hr
  exact ⟨_, hx, by rw [h.cellAt _ (by omega)]; exact hf 0 (by omega), by rw [h.cellAt _ (by omega)]; exact hf 1 (by omega), by rw [h.cellAt _ (by omega)]; exact hf 2 (by omega), by rw [h.cellAt _ (by omega)]; exact hf 3 (by omega)⟩
theorem own_cut {g k : Nat} {A' : Option Addr} (h : w.ownsRow base e size (.slice (some ⟨g, 0, none⟩) n c) n xs) (hk : k ≤ n) (hA : k < n → A' = some ⟨g, k * size, none⟩) :
    Reads w w.heap.size size A' (n - k) (xs.drop (k * size)) := by
  refine ⟨by rw [List.length_drop, h.1, Nat.sub_mul], fun hn => ?_⟩
  refine ⟨_, _, hA (by omega), (own_lt h _ rfl).2, fun j u hu => ?_⟩
  rw [List.getElem?_drop] at hu
  rw [h.cellAt _ (by
    have := (List.getElem?_eq_some_iff.1 hu).1
    rw [h.1] at this; exact this)]
  exact hu
theorem own_shorter {k : Nat} (h : w.ownsRow base e size (.slice A n c) n xs) (hk : k ≤ n) (hA : A ≠ none) : w.ownsRow base e size (.slice A k c) k (xs.take (k * size)) := by
  refine ⟨by rw [List.length_take, h.1]; exact Nat.min_eq_left (Nat.mul_le_mul_right _ hk), ?_⟩
  rcases h.2 with ⟨hv, _⟩ | ⟨g, cap, cur, hv, h2, h3, h4, h5, h6, h7⟩
  · cases hv; exact absurd rfl hA
  · cases hv
    refine .inr ⟨g, c, cur, rfl, h2, h3, by omega, h5, h6, ?_⟩
    rw [← h7, List.take_take, Nat.min_eq_left (Nat.mul_le_mul_right _ hk)]
theorem own_only {row : Option Nat} (h : w.ownsRow base e size (.slice A n c) n xs) (hg : w.grownBy w' row) (hA : ∀ a, A = some a → some a.block ≠ row) : w'.ownsRow base e size (.slice A n c) n xs := by
  refine h.kept hg ?_
  rw [own_block]
  cases hAA : A with
  | none => exact .inl rfl
  | some a => exact .inr (by simpa using hA a hAA)
theorem own_nil : w.ownsRow base e size (.slice none 0 0) 0 [] := World.ownsRow_nil _ _ _ _
end

section
variable {P : Program} {w : World} {ops : Array Oper} {rest : List Oper} {o : Oper} {a : Act} {Q : Exit → Act → World → Prop}

/-- 'append(out, xs...)': xs whatever reads as cells. -/
theorem wp_cat {K : Act → World → Prop} {t e : TypeId} {size bytes : Nat} (E : Elem P t e size bytes) (s x : Operand)
    (ho : o.op = .call { callee := .builtin .append, args := #[s, x], argTypes := #[t, t] })
    {base n c : Nat} {A : Option Addr} {xs : List Value} (hown : w.ownsRow base e size (.slice A n c) n xs) (hs : a.eval s = .slice A n c)
    {B m d : Nat} {C : Option Addr} {news : List Value} (hr : Reads w B size C m news) (hx : a.eval x = .slice C m d) (h1 : ∀ u ∈ news, u.oneCell' = true)
    (h63 : n + m ≤ maxLen) (hbytes : (n + m) * bytes ≤ 140737488355328) (hbase : base ≤ w.heap.size)
    (h : ∀ A' c' w', w'.ownsRow base e size (.slice A' (n + m) c') (n + m) (xs ++ news) → Pushed w w' A A' → K (a.put o.dst (.slice A' (n + m) c')) w') : o.wp P a w K Q := by
  obtain ⟨i, z, hi, hz, hsize, hby, hzs⟩ := E.info
  have key : ∃ v' w', (Builtin.append_ #[t, t] o.type #[.slice A n c, .slice C m d]).run P w = .ok v' w' ∧ w'.ownsRow base e size v' (n + m) (xs ++ news) ∧ w.grownBy w' (Value.slice A n c).ownBlock ∧
      (v'.ownBlock = (Value.slice A n c).ownBlock ∨ v'.ownBlock = some w.heap.size) := by
    rcases C with _ | ad
    · have hm : m = 0 := by
        rcases Nat.eq_zero_or_pos m with h0 | h0
        · exact h0
        · obtain ⟨_, _, h, _⟩ := hr.2 h0
          cases h
      subst hm
      have hn : news = [] := List.eq_nil_of_length_eq_zero (by simpa using hr.1)
      subst hn
      refine ⟨.slice A n c, w, ?_, by simpa using hown, World.grownBy.refl w _, .inl rfl⟩
      rcases hown.2 with ⟨hv, hn⟩ | ⟨g, cap, cur, hv, _, _, hnc, _⟩
      · cases hv
        simp [Builtin.append_, run_underlying E.under, sizeOf, typeInfo, hi, Builtin.lenOf, Builtin.firstCells]
      · cases hv
        simp [Builtin.append_, run_underlying E.under, sizeOf, typeInfo, hi, Builtin.lenOf, Builtin.firstCells, hnc, storeCells]
    · have hcells : ∀ j u, news[j]? = some u → w.cell? (ad.add j) = some u := by
        intro j u hu
        rcases Nat.eq_zero_or_pos m with h0 | h0
        · subst h0
          have hn : news = [] := List.eq_nil_of_length_eq_zero (by simpa using hr.1)
          subst hn
          simp at hu
        · obtain ⟨b, o', h, _, hc⟩ := hr.2 h0
          injection h with h
          subst h
          rw [Addr.add_lit]
          exact hc j u hu
      obtain ⟨v', w', hrun, h2, h3, _, h5⟩ := run_append_own_at (P := P) w base t o.type e i z size bytes E.under hi hz hsize hby hzs E.pos _ n xs hown ad m d news hr.1 hcells h1 h63 hbytes hbase
      exact ⟨v', w', hrun, h2, h3, h5⟩
  obtain ⟨v', w', hrun, h2, h3, h4⟩ := key
  obtain ⟨A', c', rfl, _, _, _⟩ := own_form h2
  unfold Oper.wp execOp
  simp only [ho, resolve, invoke, builtin, Sem.run_bind, Sem.run_pure, Result.andThen_ok, List.map_toArray, List.map_cons, List.map_nil, hs, hx, hrun]
  refine h A' c' w' h2 ⟨by rw [own_block] at h3; exact h3, fun b hb => ?_⟩
  rw [own_block, own_block, hb] at h4
  rcases h4 with h4 | h4
  · left
    cases hA : A with
    | none => rw [hA] at h4; simp at h4
    | some d => rw [hA] at h4; simp at h4; exact ⟨d, rfl, h4.symm⟩
  · right; simp at h4; omega


theorem wpList_cat {t e : TypeId} {size bytes : Nat} (E : Elem P t e size bytes) (hgd : o.guard = none) (s x : Operand)
    (ho : o.op = .call { callee := .builtin .append, args := #[s, x], argTypes := #[t, t] })
    {base n c : Nat} {A : Option Addr} {xs : List Value} (hown : w.ownsRow base e size (.slice A n c) n xs) (hs : a.eval s = .slice A n c)
    {B m d : Nat} {C : Option Addr} {news : List Value} (hr : Reads w B size C m news) (hx : a.eval x = .slice C m d) (h1 : ∀ u ∈ news, u.oneCell' = true)
    (h63 : n + m ≤ maxLen) (hbytes : (n + m) * bytes ≤ 140737488355328) (hbase : base ≤ w.heap.size)
    (h : ∀ A' c' w', w'.ownsRow base e size (.slice A' (n + m) c') (n + m) (xs ++ news) → Pushed w w' A A' → wpList P ops Q rest (a.put o.dst (.slice A' (n + m) c')) w') : wpList P ops Q (o :: rest) a w :=
  wpList_plain hgd fun _ hK => wp_cat E s x ho hown hs hr hx h1 h63 hbytes hbase fun A' c' w' h2 p => hK _ _ (h A' c' w' h2 p)

theorem step_cat {K : Act → World → Prop} {E' : Prop} {t e : TypeId} {size bytes : Nat} (E : Elem P t e size bytes) (hgd : o.guard = none) (s x : Operand)
    (ho : o.op = .call { callee := .builtin .append, args := #[s, x], argTypes := #[t, t] })
    {base n c : Nat} {A : Option Addr} {xs : List Value} (hown : w.ownsRow base e size (.slice A n c) n xs) (hs : a.eval s = .slice A n c)
    {B m d : Nat} {C : Option Addr} {news : List Value} (hr : Reads w B size C m news) (hx : a.eval x = .slice C m d) (h1 : ∀ u ∈ news, u.oneCell' = true)
    (h63 : n + m ≤ maxLen) (hbytes : (n + m) * bytes ≤ 140737488355328) (hbase : base ≤ w.heap.size)
    (h : ∀ A' c' w', w'.ownsRow base e size (.slice A' (n + m) c') (n + m) (xs ++ news) → Pushed w w' A A' → K (a.put o.dst (.slice A' (n + m) c')) w') :
    if Region.wanted o (yielded ops a.tmps) = true then Oper.wp P o a w K Q else E' := by
  have hw : Region.wanted o (yielded ops a.tmps) = true := by simp [Region.wanted, hgd]
  rw [if_pos hw]
  exact wp_cat E s x ho hown hs hr hx h1 h63 hbytes hbase h

/-- 'append(out, x)': x was laid in a block of its own. -/
theorem wp_push {K : Act → World → Prop} {t e : TypeId} {size bytes : Nat} (E : Elem P t e size bytes) (s x : Operand)
    (ho : o.op = .call { callee := .builtin .append, args := #[s, x], argTypes := #[t, t] })
    {base n c : Nat} {A : Option Addr} {xs : List Value} (hown : w.ownsRow base e size (.slice A n c) n xs) (hs : a.eval s = .slice A n c)
    (cs : Array Value) (hl : cs.size = size) (hx : a.eval x = .slice (some ⟨w.heap.size, 0, none⟩) 1 1) (h1 : ∀ u ∈ cs.toList, u.oneCell' = true)
    (h63 : n + 1 ≤ maxLen) (hbytes : (n + 1) * bytes ≤ 140737488355328) (hbase : base ≤ w.heap.size)
    (h : ∀ A' c' w', w'.ownsRow base e size (.slice A' (n + 1) c') (n + 1) (xs ++ cs.toList) → Pushed w w' A A' → K (a.put o.dst (.slice A' (n + 1) c')) w') : o.wp P a (w.alloc (.cells cs e)) K Q := by
  refine wp_cat E s x ho (hown.alloc _) hs (B := w.heap.size + 1) (C := some ⟨w.heap.size, 0, none⟩) (m := 1) (d := 1) (news := cs.toList) ?_ hx h1 h63 hbytes (by simp; omega) ?_
  · refine ⟨by simpa using hl, fun _ => ⟨_, _, rfl, by simp, fun j u hu => ?_⟩⟩
    rw [cell_of_row _ _ _ cs e (0, 0) (heap_alloc_new w _)]
    simpa using hu
  · intro A' c' w' h2 p
    refine h A' c' w' h2 ⟨⟨p.grown.os, p.grown.tape, p.grown.output, Nat.le_trans (by simp) p.grown.size, fun k hk hne => (p.grown.block k (by simp; omega) hne).trans (Below.heap_alloc w _ k hk)⟩, fun b hb => ?_⟩
    rcases p.at_ b hb with h3 | h3
    · exact .inl h3
    · simp at h3; right; omega

theorem wpList_push {t e : TypeId} {size bytes : Nat} (E : Elem P t e size bytes) (hgd : o.guard = none) (s x : Operand)
    (ho : o.op = .call { callee := .builtin .append, args := #[s, x], argTypes := #[t, t] })
    {base n c : Nat} {A : Option Addr} {xs : List Value} (hown : w.ownsRow base e size (.slice A n c) n xs) (hs : a.eval s = .slice A n c)
    (cs : Array Value) (hl : cs.size = size) (hx : a.eval x = .slice (some ⟨w.heap.size, 0, none⟩) 1 1) (h1 : ∀ u ∈ cs.toList, u.oneCell' = true)
    (h63 : n + 1 ≤ maxLen) (hbytes : (n + 1) * bytes ≤ 140737488355328) (hbase : base ≤ w.heap.size)
    (h : ∀ A' c' w', w'.ownsRow base e size (.slice A' (n + 1) c') (n + 1) (xs ++ cs.toList) → Pushed w w' A A' → wpList P ops Q rest (a.put o.dst (.slice A' (n + 1) c')) w') : wpList P ops Q (o :: rest) a (w.alloc (.cells cs e)) :=
  wpList_plain hgd fun _ hK => wp_push E s x ho hown hs cs hl hx h1 h63 hbytes hbase fun A' c' w' h2 p => hK _ _ (h A' c' w' h2 p)

theorem step_push {K : Act → World → Prop} {E' : Prop} {t e : TypeId} {size bytes : Nat} (E : Elem P t e size bytes) (hgd : o.guard = none) (s x : Operand)
    (ho : o.op = .call { callee := .builtin .append, args := #[s, x], argTypes := #[t, t] })
    {base n c : Nat} {A : Option Addr} {xs : List Value} (hown : w.ownsRow base e size (.slice A n c) n xs) (hs : a.eval s = .slice A n c)
    (cs : Array Value) (hl : cs.size = size) (hx : a.eval x = .slice (some ⟨w.heap.size, 0, none⟩) 1 1) (h1 : ∀ u ∈ cs.toList, u.oneCell' = true)
    (h63 : n + 1 ≤ maxLen) (hbytes : (n + 1) * bytes ≤ 140737488355328) (hbase : base ≤ w.heap.size)
    (h : ∀ A' c' w', w'.ownsRow base e size (.slice A' (n + 1) c') (n + 1) (xs ++ cs.toList) → Pushed w w' A A' → K (a.put o.dst (.slice A' (n + 1) c')) w') :
    if Region.wanted o (yielded ops a.tmps) = true then Oper.wp P o a (w.alloc (.cells cs e)) K Q else E' := by
  have hw : Region.wanted o (yielded ops a.tmps) = true := by simp [Region.wanted, hgd]
  rw [if_pos hw]
  exact wp_push E s x ho hown hs cs hl hx h1 h63 hbytes hbase h

theorem step_push_drew {K : Act → World → Prop} {E' : Prop} {t e : TypeId} {size bytes : Nat} (E : Elem P t e size bytes) (hgd : o.guard = none) (s x : Operand)
    (ho : o.op = .call { callee := .builtin .append, args := #[s, x], argTypes := #[t, t] })
    {base n c : Nat} {A : Option Addr} {xs : List Value} (hown : w.ownsRow base e size (.slice A n c) n xs) (hs : a.eval s = .slice A n c)
    (cs : Array Value) (hl : cs.size = size) (hx : a.eval x = .slice (some ⟨w.heap.size, 0, none⟩) 1 1) (h1 : ∀ u ∈ cs.toList, u.oneCell' = true)
    (h63 : n + 1 ≤ maxLen) (hbytes : (n + 1) * bytes ≤ 140737488355328) (hbase : base ≤ w.heap.size)
    (h : ∀ A' c' w', w'.ownsRow base e size (.slice A' (n + 1) c') (n + 1) (xs ++ cs.toList) → Pushed w w' A A' → K (a.put o.dst (.slice A' (n + 1) c')) w') :
    if Region.wanted o (yielded ops a.tmps) = true then Oper.wp P o a (w.alloc (.cells cs e)).drew K Q else E' :=
  step_push (w := w.drew) E hgd s x ho hown.drew hs cs hl hx h1 h63 hbytes hbase fun A' c' w' h2 p => h A' c' w' h2 ⟨⟨p.grown.os, p.grown.tape, p.grown.output, p.grown.size, p.grown.block⟩, p.at_⟩
end

theorem splice_full {α : Type} (L ys : List α) (k : Nat) (h : L.length = ys.length) (hk : ys.length ≤ k) : splice L 0 (ys.take k) = ys := by
  unfold splice
  rw [List.take_of_length_le hk, List.take_zero, List.nil_append, List.drop_eq_nil_of_le (by omega), List.append_nil]

/-- What is behind one thing is moved over it, and the last one is left out. -/
theorem splice_shift {α : Type} (L : List α) (q k size : Nat) (hL : L.length = k * size) (hq : q < k) :
    (splice L (q * size) ((L.drop ((q + 1) * size)).take (min (k - (q + 1)) (k - q) * size))).take ((k - 1) * size) = L.take (q * size) ++ L.drop ((q + 1) * size) := by
  have hm : min (k - (q + 1)) (k - q) = k - (q + 1) := by omega
  have hdl : (L.drop ((q + 1) * size)).length = (k - (q + 1)) * size := by rw [List.length_drop, hL, Nat.sub_mul]
  have hin : (L.drop ((q + 1) * size)).take ((k - (q + 1)) * size) = L.drop ((q + 1) * size) := List.take_of_length_le (by omega)
  rw [hm, hin]
  unfold splice
  have hq1 : q * size ≤ k * size := Nat.mul_le_mul_right _ (by omega)
  have htl : (L.take (q * size)).length = q * size := by rw [List.length_take, hL]; omega
  rw [← List.append_assoc]
  have e : (k - 1) * size = (L.take (q * size) ++ L.drop ((q + 1) * size)).length := by
    rw [List.length_append, htl, hdl, ← Nat.add_mul]
    congr 1; omega
  rw [e, List.take_left]

theorem iv_erase (l : List Int) (q : Nat) : (iv l).take (q * 1) ++ (iv l).drop ((q + 1) * 1) = iv (l.eraseIdx q) := by
  rw [Nat.mul_one, Nat.mul_one, List.eraseIdx_eq_take_drop_succ]
  simp [iv]

section
variable {P : Program} {w : World}

theorem run_copy_own {t e : TypeId} {size bytes : Nat} (E : Elem P t e size bytes) (ty : TypeId) {base g n c : Nat} {xs : List Value} (hown : w.ownsRow base e size (.slice (some ⟨g, 0, none⟩) n c) n xs)
    {dp : Option Addr} {dLen dCap : Nat} {B m d : Nat} {C : Option Addr} {ys : List Value} (hr : Reads w B size C m ys) (off : Nat)
    (hdp : 0 < min m dLen → dp = some ⟨g, off * size, none⟩) (hfit : off + min m dLen ≤ n) (h1 : ∀ u ∈ ys, u.oneCell' = true) :
    ∃ w', (Builtin.copy_ #[t, t] ty #[.slice dp dLen dCap, .slice C m d]).run P w = .ok (goInt (min m dLen : Nat)) w' ∧
      w'.ownsRow base e size (.slice (some ⟨g, 0, none⟩) n c) n (splice xs (off * size) (ys.take (min m dLen * size))) ∧ w.grownBy w' (some g) := by
  obtain ⟨i, z, hi, hz, hsize, hby, hzs⟩ := E.info
  subst hsize
  have hmin : Nat.min m dLen = min m dLen := rfl
  rcases Nat.eq_zero_or_pos (min m dLen) with h0 | h0
  · refine ⟨w, ?_, ?_, World.grownBy.refl w _⟩
    · have hf : (Builtin.firstCells i.size 0 (.slice C m d)).run P w = .ok #[] w := by
        cases C with
        | none => simp [Builtin.firstCells]
        | some a => simp [Builtin.firstCells, loadCells, loadCellsFrom]
      cases dp with
      | none => simp [Builtin.copy_, run_underlying E.under, Builtin.lenOf, sizeOf, typeInfo, hi, hmin, h0, hf]
      | some a => simp [Builtin.copy_, run_underlying E.under, Builtin.lenOf, sizeOf, typeInfo, hi, hmin, h0, hf, storeCells]
    · rw [h0]; simpa [splice] using hown
  · obtain rfl := hdp h0
    obtain ⟨sb, so, rfl, _, hsrc0⟩ := hr.2 (by omega)
    have hsrc : ∀ j u, ys[j]? = some u → w.cell? ((⟨sb, so, none⟩ : Addr).add j) = some u := fun j u hu => by rw [Addr.add_lit]; exact hsrc0 j u hu
    clear hsrc0
    generalize (⟨sb, so, none⟩ : Addr) = ad at *
    generalize hk : min m dLen = k at *
    have hkm : k ≤ m := by omega
    have hyl : (ys.take (k * i.size)).length = k * i.size := by
      rw [List.length_take, hr.1]; exact Nat.min_eq_left (Nat.mul_le_mul_right _ hkm)
    have hsrc' : ∀ j v, (ys.take (k * i.size))[j]? = some v → w.cell? (ad.add j) = some v := by
      intro j v hv
      rw [List.getElem?_take] at hv
      split at hv
      · exact hsrc j v hv
      · cases hv
    have hf := run_firstCells_some (P := P) w i.size k ad m d (ys.take (k * i.size)) hyl hsrc'
    rcases hown.2 with ⟨hv, _⟩ | ⟨g', cap, cur, hv, hb, hg, hnc, hcm, hcs, htake⟩
    · cases hv
    · simp only [Value.slice.injEq, Option.some.injEq, Addr.mk.injEq, and_true, true_and] at hv
      obtain ⟨rfl, rfl⟩ := hv
      have hle : off * i.size + k * i.size ≤ n * i.size := by rw [← Nat.add_mul]; exact Nat.mul_le_mul_right _ hfit
      have hle2 : n * i.size ≤ c * i.size := Nat.mul_le_mul_right _ hnc
      have h1' : ∀ u ∈ ys.take (k * i.size), u.oneCell' = true := fun u hu => h1 u (List.mem_of_mem_take hu)
      clear hsrc hsrc'
      generalize ys.take (k * i.size) = zs at *
      have hst := run_storeCells_at P g (off * i.size) e zs 0 cur w hg (by rw [hyl, hcs]; omega) h1'
      simp only [Nat.add_zero] at hst
      generalize hrow : (cur.toList.take (off * i.size) ++ zs ++ cur.toList.drop (off * i.size + zs.length)).toArray = row at hst
      have hrun : (Builtin.copy_ #[t, t] ty #[.slice (some ⟨g, off * i.size, none⟩) dLen dCap, .slice (some ad) m d]).run P w = .ok (goInt (k : Nat)) (w.setRow g row) := by
        simp [Builtin.copy_, run_underlying E.under, Builtin.lenOf, sizeOf, typeInfo, hi, hmin, hf, hst]
      refine ⟨_, hrun, ?_, ⟨rfl, rfl, rfl, by simp, fun j _ hj => setRow_other w g j _ (fun e => hj (by simp [e]))⟩⟩
      refine ⟨?_, .inr ⟨g, c, _, rfl, hb, setRow_heap w g cur _ e _ hg, hnc, hcm, ?_, ?_⟩⟩
      · rw [length_splice _ _ _ (by rw [hyl, hown.1]; omega)]; exact hown.1
      · rw [← hrow]
        simp only [List.size_toArray, List.length_append, hyl, List.length_take, List.length_drop, Array.length_toList, hcs]
        omega
      · rw [← hrow, ← htake]
        unfold splice
        rw [hyl]
        simp only [List.append_assoc]
        have hcl : cur.toList.length = c * i.size := by simpa using hcs
        apply List.ext_getElem?
        intro j
        simp only [List.getElem?_take, List.getElem?_append, List.length_take, hyl, List.getElem?_drop, hcl]
        rw [Nat.min_eq_left (show off * i.size ≤ c * i.size by omega), Nat.min_eq_left hle2, Nat.min_eq_left (show off * i.size ≤ n * i.size by omega)]
        repeat' split
        all_goals first
          | rfl
          | omega
          | (rw [List.getElem?_eq_none (by omega)])

/-- 'copy(dst, src)', dst a part of a row of the call's own. -/
theorem wpList_copy {ops : Array Oper} {rest : List Oper} {o : Oper} {a : Act} {Q : Exit → Act → World → Prop} {t e : TypeId} {size bytes : Nat} (E : Elem P t e size bytes) (hgd : o.guard = none) (s x : Operand)
    (ho : o.op = .call { callee := .builtin .copy, args := #[s, x], argTypes := #[t, t] })
    {base g n c : Nat} {xs : List Value} (hown : w.ownsRow base e size (.slice (some ⟨g, 0, none⟩) n c) n xs)
    {dp : Option Addr} {dLen dCap : Nat} (hs : a.eval s = .slice dp dLen dCap) {B m d : Nat} {C : Option Addr} {ys : List Value} (hr : Reads w B size C m ys) (hx : a.eval x = .slice C m d) (off : Nat)
    (hdp : 0 < min m dLen → dp = some ⟨g, off * size, none⟩) (hfit : off + min m dLen ≤ n) (h1 : ∀ u ∈ ys, u.oneCell' = true)
    (h : ∀ w', w'.ownsRow base e size (.slice (some ⟨g, 0, none⟩) n c) n (splice xs (off * size) (ys.take (min m dLen * size))) → w.grownBy w' (some g) → wpList P ops Q rest (a.put o.dst (goInt (min m dLen : Nat))) w') : wpList P ops Q (o :: rest) a w := by
  obtain ⟨w', hrun, h2, h3⟩ := run_copy_own E o.type hown (dCap := dCap) (d := d) hr off hdp hfit h1
  refine wpList_plain hgd fun K hK => ?_
  unfold Oper.wp execOp
  simp only [ho, resolve, invoke, builtin, Sem.run_bind, Sem.run_pure, Result.andThen_ok, List.map_toArray, List.map_cons, List.map_nil, hs, hx, hrun]
  exact hK _ _ (h w' h2 h3)
end

end Go.Proofs.Ytmnjlhifjjainaa
