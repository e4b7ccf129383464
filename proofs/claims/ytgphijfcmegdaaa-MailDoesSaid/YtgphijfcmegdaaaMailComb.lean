/-
  mail.Combine: the walk.
-/
import Derived.Test.YtgphijfcmegdaaaMailMap
import Derived.Test.YtgphijfcmegdaaaSortOwn
namespace Go.Proofs.Ytgphijfcmegdaaa
open Go.RowKit Go.Shelf
open Go.Maps (Keyed IsMap)

theorem zeroMail (w : World) : (zeroValue 31).run Try.prog w = .ok (.agg #[.int .i64 0, .int .i64 0, .int .i64 0, .int .i64 0]) w := by kernel_rfl

theorem nearer_c (x y : Msg) (w : World) : Calls Try.prog 34 #[.agg (mc x).toArray, .agg (mc y).toArray] w fun e w' => e = .returned (.bool (decide (x.d < y.d))) ∧ Below w.heap.size w w' := by
  unfold mc
  go_enter Try.func34, Try.ntmps34
  go_wp2
  go_ret
  exact ⟨rfl, ((Below.refl _ _).alloc (Nat.le_refl _) _).alloc (by simp) _⟩

/-- A box that was laid first is kept. -/
theorem box_kept {w w3 : World} {o1 o2 : Obj} (h : Below ((w.alloc o1).alloc o2).heap.size ((w.alloc o1).alloc o2) w3) : w3.heap[w.heap.size]? = some o1 := by
  have s1 : (w.alloc o1).heap.size = w.heap.size + 1 := World.size_alloc _ _
  have s2 : ((w.alloc o1).alloc o2).heap.size = w.heap.size + 1 + 1 := by rw [World.size_alloc, s1]
  rw [h.block _ (by omega), Below.heap_alloc _ _ _ (by omega)]
  exact Array.getElem?_push_size
theorem reads_box2 (w : World) (o1 : Obj) (m : Msg) : Reads ((w.alloc o1).alloc (.cells #[.int .i64 m.slot, .int .i64 m.dir, .int .i64 m.v, .int .i64 m.d] 31)) (w.heap.size + 1 + 1) 4 (some ⟨w.heap.size + 1, 0, none⟩) 1 (mc m) := by
  have h : ((w.alloc o1).alloc (.cells #[.int .i64 m.slot, .int .i64 m.dir, .int .i64 m.v, .int .i64 m.d] 31)).heap[w.heap.size + 1]? = some (.cells #[.int .i64 m.slot, .int .i64 m.dir, .int .i64 m.v, .int .i64 m.d] 31) := by
    have s1 : (w.alloc o1).heap.size = w.heap.size + 1 := World.size_alloc _ _
    rw [← s1]
    exact Array.getElem?_push_size
  refine ⟨rfl, fun _ => ⟨_, _, rfl, by omega, fun j u hu => ?_⟩⟩
  rw [Lib.cell_of_heap h, Nat.zero_add, ← Array.getElem?_toList]
  exact hu
theorem mail_box {w : World} {b : Nat} {x : Msg} (h : w.heap[b]? = some (.cells #[.int .i64 x.slot, .int .i64 x.dir, .int .i64 x.v, .int .i64 x.d] 31)) :
    w.cell? ⟨b, 0, none⟩ = some (.int .i64 x.slot) ∧ w.cell? ⟨b, 1, none⟩ = some (.int .i64 x.dir) ∧ w.cell? ⟨b, 2, none⟩ = some (.int .i64 x.v) ∧ w.cell? ⟨b, 3, none⟩ = some (.int .i64 x.d) := by
  refine ⟨?_, ?_, ?_, ?_⟩ <;> · rw [Lib.cell_of_heap h]; rfl

set_option maxRecDepth 100000 in
/-- The look-up of a message's key: with the value's shape written out. -/
theorem wpList_lookup_mail {w : World} {ops : Array Oper} {rest : List Oper} {o : Oper} {a : Act} {Q : Exit → Act → World → Prop} (hg : o.guard = none) (m x : Operand)
    (hop : o.op = Op.lookup 57 m x true) (b n : Nat) (D : DataW Msg) (hm : a.eval m = .map (some b)) (hown : w.ownsMap Try.prog 29 mR b n D)
    (key : Value) (kl : Lit) (hx : a.eval x = key) (hkey : keyOf Try.prog 29 key = some kl) (y : Msg) (hy : D.atKey kl (.held ⟨0, 0, 0, 0⟩) = .held y) (bb : Bool) (hb : Maps.has D kl = bb)
    (hK : wpList Try.prog ops Q rest (a.put o.dst (.tuple #[.agg #[.int .i64 y.slot, .int .i64 y.dir, .int .i64 y.v, .int .i64 y.d], .bool bb])) w) :
    wpList Try.prog ops Q (o :: rest) a w :=
  wpList_lookup_own_ok w hg m x _ hop 29 31 keyed Try.underlying57 mR (zeroMail w) (.held ⟨0, 0, 0, 0⟩) [] rfl b n D hm hown key kl hx hkey (fun v ps hv => by
    obtain ⟨m, rfl, h2⟩ := mR_inv hv
    rw [hy] at h2
    have e : m = y := by
      have := congrArg Prod.fst h2
      injection this with this
      exact this.symm
    subst e
    rw [hb]
    exact hK)

set_option maxRecDepth 100000 in
/-- The step of a range over such a map: with the shapes written out. -/
theorem wpList_next_mail {w : World} {ops : Array Oper} {rest : List Oper} {o : Oper} {a : Act} {Q : Exit → Act → World → Prop} (hg : o.guard = none) (it : Operand) (hop : o.op = Op.next it false)
    (b r n : Nat) (D : DataW Msg) (left : Lit → Bool) (cnt : Nat) (hit : a.eval it = .pointer (some ⟨r, 0, none⟩)) (h : w.ranges Try.prog 29 mR b r n D left cnt)
    (hDone : (∀ kl, left kl = false) → wpList Try.prog ops Q rest (a.put o.dst (.tuple #[.bool false])) w)
    (hMore : ∀ (x c : Msg) (kl : Lit) (w' : World) (cnt' : Nat), Hid (keyOf Try.prog 29 (.agg (kc x)) = some kl) → Hid (left kl = true) → Hid (∀ zd, D.atKey kl zd = .held c) → w'.ranges Try.prog 29 mR b r n D (fun z => left z && !z.sameKey kl) cnt' → cnt' < cnt →
      w.grownBy w' (some r) → w'.heap.size = w.heap.size → (Instr.entry (.pointer (some ⟨r, 0, none⟩))).run Try.prog w' = .ok (.tuple #[.agg #[.int .i64 x.slot, .int .i64 x.dir, .int .i64 x.v], .agg #[.int .i64 c.slot, .int .i64 c.dir, .int .i64 c.v, .int .i64 c.d]]) w' →
      wpList Try.prog ops Q rest (a.put o.dst (.tuple #[.bool true, .agg #[.int .i64 x.slot, .int .i64 x.dir, .int .i64 x.v], .agg #[.int .i64 c.slot, .int .i64 c.dir, .int .i64 c.v, .int .i64 c.d]])) w') :
    wpList Try.prog ops Q (o :: rest) a w :=
  wpList_next_ranges w hg it hop 29 keyed mR (fun m : Msg => .agg (kc m)) (fun m : Msg => .agg (mc m).toArray) (fun _ _ hk => key_inv hk) (fun _ _ hv => by obtain ⟨m, e, _⟩ := mR_inv hv; exact ⟨m, e⟩) b r n D left cnt hit h (fun _ hl => hDone hl)
    (fun x c kl y w' cnt' hkey hlk hv hat hrg hlt hgr hsz hen => hMore x c kl w' cnt' hkey hlk (fun zd => by
      rw [hat zd]
      have := mR_mk c
      rw [show mR (.agg (mc c).toArray) = some y from hv] at this
      injection this with this
      rw [this]) hrg hlt hgr hsz hen)

set_option maxRecDepth 100000 in
set_option maxHeartbeats 2000000 in
theorem combine_c (A : Option Addr) (n c : Nat) (ms : List Msg) (w : World) (hr : Reads w w.heap.size 4 A n (mv ms)) (hn : n ≤ 1000000) (hf : ∀ m ∈ ms, m.fits) :
    Calls Try.prog 14 #[.slice A n c] w fun e w' => ∃ A' n' c', e = .returned (.slice A' n' c') ∧ (combine ms).length = n' ∧ w'.ownsRow w.heap.size 31 4 (.slice A' n' c') n' (mv (combine ms)) ∧ Below w.heap.size w w' := by
  have hl := hr.mail_len
  have hmm := @run_makeMap Try.prog
  go_enter Try.func14, Try.ntmps14
  go_wp2_with (fail)
  clear hmm
  go_loopw [15] (fun i wr => ∃ (k : Nat) (D : DataW Msg), k ≤ n ∧ i = .int .i64 k ∧ wr.ownsMap Try.prog 29 mR w.heap.size k D ∧ Hid (MapHas D (combine (ms.take k))) ∧ Below w.heap.size w wr) (fun i _ => n - (intOf i).toNat)
  case atStart => exact ⟨0, .map [], Nat.zero_le _, rfl, World.ownsMap_made _ _ _ _, MapHas.nil, (Below.refl _ _).alloc (Nat.le_refl _) _⟩
  case round =>
    obtain ⟨k, D, hk, rfl, hown, hD, hB⟩ := hrel
    by_cases hlt : k < n
    · obtain ⟨b, o, x, rfl, hx, c0, c1, c2, c3⟩ := (hr.below hB).mail_at hlt
      have hxf : x.fits := hf x (List.mem_of_getElem? hx.out)
      obtain ⟨kl, hkey⟩ := key_reads x hxf
      have hrise := (combine_comb (ms.take k)).1
      have hstep : combine (ms.take (k + 1)) = putM (combine (ms.take k)) x := by rw [List.take_add_one, hx.out]; exact combine_snoc _ _
      obtain ⟨bb, y, hb, hy, hput, hstay⟩ : ∃ (bb : Bool) (y : Msg), Maps.has D kl = bb ∧ D.atKey kl (.held ⟨0, 0, 0, 0⟩) = .held y ∧
          Hid ((bb = false ∨ x.d < y.d) → MapHas (D.put kl (.held x)) (combine (ms.take (k + 1)))) ∧ Hid (bb = true → ¬ x.d < y.d → MapHas D (combine (ms.take (k + 1)))) := by
        by_cases hex : ∃ y ∈ combine (ms.take k), kEq y x
        · obtain ⟨y, hy, hyx⟩ := hex
          refine ⟨true, y, ((hD.out.2 x kl hkey).1).2 ⟨y, hy, hyx⟩, (hD.out.2 x kl hkey).2 y hy hyx _, ?_, ?_⟩
          · intro hc
            rw [hstep]
            refine hD.out.put hrise hkey fun z hz hzx => ?_
            have : z = y := rise_one hrise hz hy (kEq_trans hzx (kEq_symm hyx))
            subst this
            rcases hc with hc | hc
            · cases hc
            · omega
          · intro _ hc
            rw [hstep]
            exact hD.out.stay hrise hy hyx (by omega)
        · have hh : Maps.has D kl = false := by
            cases hhh : Maps.has D kl
            · rfl
            · exact absurd (((hD.out.2 x kl hkey).1).1 hhh) hex
          refine ⟨false, ⟨0, 0, 0, 0⟩, hh, Maps.atKey_of_not_has hh _, ?_, fun h => by cases h⟩
          intro _
          rw [hstep]
          exact hD.out.put hrise hkey fun z hz hzx => absurd ⟨z, hz, hzx⟩ hex
      have HK := Lib.hid hkey
      have HY := Lib.hid hy
      have HB := Lib.hid hb
      clear hkey hy hb hstep hrise hxf
      cases bb with
      | false =>
        go_wp2_with (first
          | (at_lookup; refine wpList_lookup_mail rfl _ _ rfl w.heap.size k D rfl (hown.alloc _) _ kl rfl HK.out y HY.out false HB.out ?_)
          | (at_mapUpdate; refine wpList_mapUpdate_own _ rfl _ _ _ 57 rfl 29 31 keyed Try.underlying57 mR w.heap.size k D rfl ((hown.alloc _).alloc _) (by unfold maxLen; omega) _ _ kl rfl rfl HK.out (.held x) [] rfl ?_; intro w1 hown1 hgrow1))
        go_roundw
        case rel => exact ⟨k + 1, _, by omega, by go_num, hown1, hput.out (.inl rfl), (((hB.alloc hB.size _).alloc (by simp; have := hB.size; omega) _).grown hgrow1 (by simp; have := hB.size; omega) (fun j hj => by cases hj; exact Nat.le_refl _))⟩
        case measure => simp [intOf]; omega
      | true =>
        by_cases hd : x.d < y.d
        · go_wp2_with (first
            | (at_lookup; refine wpList_lookup_mail rfl _ _ rfl w.heap.size k D rfl (hown.alloc _) _ kl rfl HK.out y HY.out true HB.out ?_)
            | (go_at_call 34; refine (nearer_c x y _).mono ?_; rintro e w3 ⟨rfl, hB3⟩; obtain ⟨d0, d1, d2, d3⟩ := mail_box (box_kept hB3); have hown3 := ((hown.alloc _).alloc _).kept (only_of_below hB3 none) (by simp))
            | (at_mapUpdate; refine wpList_mapUpdate_own _ rfl _ _ _ 57 rfl 29 31 keyed Try.underlying57 mR w.heap.size k D rfl hown3 (by unfold maxLen; omega) _ _ kl rfl rfl HK.out (.held x) [] rfl ?_; intro w1 hown1 hgrow1))
          have hBB := ((hB.alloc hB.size _).alloc (by simp; have := hB.size; omega) _).trans (hB3.mono (by simp; have := hB.size; omega))
          go_roundw
          case rel => exact ⟨k + 1, _, by omega, by go_num, hown1, hput.out (.inr hd), hBB.grown hgrow1 hBB.size (fun j hj => by cases hj; exact Nat.le_refl _)⟩
          case measure => simp [intOf]; omega
        · have hdf : decide (x.d < y.d) = false := decide_eq_false hd
          go_wp2_with (first
            | (at_lookup; refine wpList_lookup_mail rfl _ _ rfl w.heap.size k D rfl (hown.alloc _) _ kl rfl HK.out y HY.out true HB.out ?_)
            | (go_at_call 34; refine (nearer_c x y _).mono ?_; rintro e w3 ⟨rfl, hB3⟩; have hown3 := ((hown.alloc _).alloc _).kept (only_of_below hB3 none) (by simp)))
          have hBB := ((hB.alloc hB.size _).alloc (by simp; have := hB.size; omega) _).trans (hB3.mono (by simp; have := hB.size; omega))
          go_roundw
          case rel => exact ⟨k + 1, D, by omega, by go_num, hown3.mono (by omega), hstay.out (by simp) hd, hBB⟩
          case measure => simp [intOf]; omega
    · obtain rfl : k = n := by omega
      have hM : Hid (MapHas D (combine ms)) := by
        have := hD.out
        rw [List.take_of_length_le (by omega)] at this
        exact this
      have hbl := hown.lt
      clear hD hr
      go_wp2_with (at_range; refine wpList_range_own _ rfl _ 57 rfl 29 31 keyed Try.underlying57 mR w.heap.size k D rfl hown ?_; intro w0 hrg0 hg0 hs0)
      go_frame
      have hB0 : Below w.heap.size w w0 := hB.grown hg0 hB.size (fun j hj => by cases hj)
      have hsd := hown.size_le
      clear hown hg0
      generalize wr.heap.size = r at hrg0 hs0 hbl ⊢
      clear hB
      go_loopw [9] (fun v wq => ∃ (left : Lit → Bool) (cnt : Nat) (o : List Msg) (A' : Option Addr) (c' : Nat), v = .slice A' o.length c' ∧ wq.ranges Try.prog 29 mR w.heap.size r k D left cnt ∧ Hid (Met (combine ms) o left) ∧
          wq.ownsRow (r + 1) 31 4 (.slice A' o.length c') o.length (mv o) ∧ o.length + cnt ≤ k ∧ Below w.heap.size w wq ∧ r + 1 ≤ wq.heap.size) (fun _ wq => wq.rangeLeft w.heap.size r)
      case atStart => exact ⟨_, _, [], none, 0, rfl, hrg0, Met.start hM.out, own_nil, by simpa using hsd, hB0, by omega⟩
      case round =>
        obtain ⟨left, cnt, o, A', c', rfl, hrg, hmet, ho, hcnt, hB, hsz⟩ := hrel
        go_wp2_with (at_next; refine wpList_next_mail rfl _ rfl w.heap.size r k D left cnt rfl hrg ?_ ?_)
        · intro hl0
          have hol : o.length ≤ 1000000000 := by omega
          have hall := Lib.hid (hmet.out.all (fun y hy => hf y (mem_combine hy)) hl0)
          have hnd := Lib.hid hmet.out.nodup
          clear hrg hmet hl0
          go_wp2_with (fail)
          refine (sort_c ho hol).mono ?_
          rintro e w3 ⟨rfl, d', hp, hs, ho3, hg3⟩
          have hd : Hid (d' = combine ms) := sorted_is (combine_comb ms).1 hall.out hnd.out hp hs
          have hlen : Hid ((combine ms).length = o.length) := by rw [← hd.out]; exact hp.length_eq
          clear hp hs
          go_wp2_with (fail)
          go_ret
          refine ⟨A', o.length, c', rfl, hlen.out, ?_, ?_⟩
          · rw [← hd.out]; exact own_more ho3 (by omega)
          · exact hB.grown hg3 hB.size (fun j hj => by
              cases hA : A' with
              | none => rw [hA] at hj; cases hj
              | some a => rw [hA] at hj; have := (own_lt ho a hA).1; simp at hj; omega)
        · intro x c2 kl w1 cnt1 hkey hlk hat hrg1 hlt1 hg1 hs1 hen
          have hst := Lib.hid (hmet.out.step hM.out (combine_comb ms).1 hkey.out hlk.out hat.out)
          have ho1 : w1.ownsRow (r + 1) 31 4 (.slice A' o.length c') o.length (mv o) := own_only ho hg1 (fun a ha e => by have := (own_lt ho a ha).1; injection e; omega)
          have hsz1 : r + 1 ≤ w1.heap.size := by omega
          have hB1 : Below w.heap.size w w1 := hB.grown hg1 hB.size (fun j hj => by injection hj; omega)
          have HL := Lib.hid hrg.left_eq
          clear hs1 hkey hlk hat hmet hrg hg1 ho
          go_wp2_with (at_builtin; go_must (refine wpList_cat elMail rfl _ _ rfl ((ho1.alloc _).alloc _) rfl (reads_box2 w1 _ c2) rfl (mc_one c2) (by unfold maxLen; omega) (by omega) (by simp; omega) ?_; intro A4 c4 w4 ho4 p4))
          have hrg4 := ((hrg1.alloc _).alloc _).kept p4.grown (fun e => by
              cases hA : A' with
              | none => rw [hA] at e; cases e
              | some a => rw [hA] at e; have := (own_lt ho1 a hA).1; simp at e; omega) (fun e => by
              cases hA : A' with
              | none => rw [hA] at e; cases e
              | some a => rw [hA] at e; have := (own_lt ho1 a hA).1; simp at e; omega)
          have hl : (o ++ [c2]).length = o.length + 1 := by simp
          go_roundw
          case rel =>
            refine ⟨_, cnt1, o ++ [c2], A4, c4, by rw [hl], hrg4, hst.out.2.2, ?_, by rw [hl]; omega, ?_, ?_⟩
            · rw [hl, mv_append, show mv [c2] = mc c2 by simp [mv]]; exact ho4
            · exact p4.below ((ho1.alloc _).alloc _) ((hB1.alloc hB1.size _).alloc (by simp; have := hB1.size; omega) _) (by omega) (by simp; have := hB1.size; omega)
            · have := p4.larger; simp at this; omega
          case measure => rw [hrg4.left_eq, HL.out]; exact hlt1
end Go.Proofs.Ytgphijfcmegdaaa
