/-
  Replies as bytes: plain laws.
-/
import Derived.Test.YtmnjlhifjjainaaRdInts
namespace Go.Proofs.Ytmnjlhifjjainaa
open Go.RowKit

structure Hit where
  v : Int
  d : Int
theorem Hit.eq_iff (a b : Hit) : a = b ↔ a.v = b.v ∧ a.d = b.d := by cases a; cases b; simp
instance : DecidableEq Hit := fun a b => decidable_of_iff _ (Hit.eq_iff a b).symm

structure Rep where
  id : Int
  code : Int
  found : Bool
  d : Int
  hits : List Hit
theorem Rep.eq_iff (a b : Rep) : a = b ↔ a.id = b.id ∧ a.code = b.code ∧ a.found = b.found ∧ a.d = b.d ∧ a.hits = b.hits := by cases a; cases b; simp
instance : DecidableEq Rep := fun a b => decidable_of_iff _ (Rep.eq_iff a b).symm

def okHit (h : Hit) : Prop := (0 ≤ h.v ∧ h.v < 200) ∧ (0 ≤ h.d ∧ h.d ≤ 200)
instance (h : Hit) : Decidable (okHit h) := by unfold okHit; infer_instance

/-- May a reply be? -/
def mayRep (x : Rep) : Prop := good x.id ∧ (0 ≤ x.code ∧ x.code ≤ 1000) ∧ (0 ≤ x.d ∧ x.d ≤ 400) ∧ x.hits.length ≤ 100 ∧
  (x.code ≠ 0 → x.found = false ∧ x.d = 0 ∧ x.hits = []) ∧ (x.found = false → x.d = 0 ∧ x.hits = []) ∧ (x.d = 0 ∨ x.hits = []) ∧ ∀ h ∈ x.hits, okHit h
instance (x : Rep) : Decidable (mayRep x) := by unfold mayRep; infer_instance

def b01 (b : Bool) : Int := if b then 1 else 0
def hitB (h : Hit) : List UInt8 := layB [h.v, h.d]
def hitsB (l : List Hit) : List UInt8 := l.flatMap hitB
theorem hitsB_snoc (l : List Hit) (h : Hit) : hitsB (l ++ [h]) = hitsB l ++ hitB h := by simp [hitsB]
/-- A reply's bytes. -/
def repB (x : Rep) : List UInt8 := layB [x.id, x.code] ++ if x.code = 0 then layB [b01 x.found, x.d, (x.hits.length : Int)] ++ hitsB x.hits else []
def repS (x : Rep) : ByteArray := if mayRep x then ⟨(repB x).toArray⟩ else ⟨#[]⟩

def hitOf (xs : List Int) : Hit := ⟨xs.getD 0 0, xs.getD 1 0⟩
/-- So many hits. -/
def rdHits (s : ByteArray) : Nat → Nat → Option (List Hit × Nat)
  | 0, q => some ([], q)
  | k + 1, q => match rdHits s k q with
    | some (l, p) => match rdInts s 2 p with
      | some (xs, p') => some (l ++ [hitOf xs], p')
      | none => none
    | none => none
theorem rdHits_none {s : ByteArray} {k q : Nat} (h : rdHits s k q = none) : ∀ n, k ≤ n → rdHits s n q = none := by
  intro n hn
  induction hn with
  | refl => exact h
  | step _ ih => simp only [rdHits, ih]
theorem rdHits_more {s : ByteArray} {k q p p2 : Nat} {l : List Hit} {xs : List Int} (h : rdHits s k q = some (l, p)) (h2 : rdInts s 2 p = some (xs, p2)) : rdHits s (k + 1) q = some (l ++ [hitOf xs], p2) := by
  simp only [rdHits, h, h2]
theorem rdHits_stop {s : ByteArray} {k q p n : Nat} {l : List Hit} (h : rdHits s k q = some (l, p)) (h2 : rdInts s 2 p = none) (hk : k < n) : rdHits s n q = none :=
  rdHits_none (k := k + 1) (by simp only [rdHits, h, h2]) n (by omega)
theorem hit_lay {xs : List Int} (h : xs.length = 2) : hitB (hitOf xs) = layB xs := by
  match xs, h with
  | [a, b], _ => rfl
theorem rdHits_same {s : ByteArray} : ∀ {k q : Nat} {l : List Hit} {p : Nat}, rdHits s k q = some (l, p) → q ≤ s.size → l.length = k ∧ q ≤ p ∧ p ≤ s.size ∧ hitsB l = (s.data.toList.drop q).take (p - q)
  | 0, q, l, p, h, hq => by
    simp [rdHits] at h
    obtain ⟨rfl, rfl⟩ := h
    exact ⟨rfl, Nat.le_refl _, hq, by simp [hitsB]⟩
  | k + 1, q, l, p, h, hq => by
    simp only [rdHits] at h
    split at h
    · rename_i l1 p1 h1
      split at h
      · rename_i xs p2 h2
        injection h with h
        injection h with h3 h4
        subst h3 h4
        obtain ⟨i0, i1, i2, i3⟩ := rdHits_same h1 hq
        obtain ⟨a1, a2, a3, a4⟩ := rdInts_same h2 i2
        refine ⟨by simp [i0], by omega, a2, ?_⟩
        rw [hitsB_snoc, hit_lay (rdInts_len h2), i3, a3, show p2 - q = (p1 - q) + (p2 - p1) by omega, List.take_add, List.drop_drop, show q + (p1 - q) = p1 by omega]
      · cases h
    · cases h
theorem hit_good {h : Hit} (hh : okHit h) : ∀ x ∈ [h.v, h.d], good x := by
  intro x hx
  unfold okHit at hh
  unfold good
  simp only [List.mem_cons, List.not_mem_nil, or_false] at hx
  rcases hx with rfl | rfl <;> omega
theorem rdHits_back {s : ByteArray} {q : Nat} : ∀ (l : List Hit) (r : List UInt8), s.data.toList.drop q = hitsB l ++ r → (∀ h ∈ l, okHit h) → rdHits s l.length q = some (l, q + (hitsB l).length) := by
  refine snoc_ind (fun r _ _ => rfl) fun l m ih r h hg => ?_
  have hm := hg m (by simp)
  rw [hitsB_snoc, List.append_assoc] at h
  have h1 := ih _ h (fun y hy => hg y (by simp [hy]))
  have hd : s.data.toList.drop (q + (hitsB l).length) = layB [m.v, m.d] ++ r := by
    rw [← List.drop_drop, h, List.drop_left]; rfl
  have h2 := rdInts_back _ _ hd (hit_good hm)
  rw [List.length_append, List.length_singleton, rdHits_more h1 h2, hitsB_snoc, List.length_append, Nat.add_assoc]
  rfl

/-- What is read of bytes, so far: a reply, and the place behind it. -/
def rdRep (s : ByteArray) : Option (Rep × Nat) :=
  match rdInts s 2 0 with
  | some (xs, p) =>
    if xs.getD 1 0 ≤ 1000 then
      (if xs.getD 1 0 = 0 then
        (match rdInts s 3 p with
        | some (ys, p2) =>
          if ys.getD 0 0 ≤ 1 ∧ ys.getD 2 0 ≤ 100 then
            (match rdHits s (ys.getD 2 0).toNat p2 with
            | some (l, p3) => some (⟨xs.getD 0 0, 0, decide (ys.getD 0 0 = 1), ys.getD 1 0, l⟩, p3)
            | none => none)
          else none
        | none => none)
      else some (⟨xs.getD 0 0, xs.getD 1 0, false, 0, []⟩, p))
    else none
  | none => none

/-- The reply that the bytes are. -/
def getRep (s : ByteArray) : Option Rep :=
  match rdRep s with
  | some (x, p) => if mayRep x ∧ p = s.size then some x else none
  | none => none

theorem rdRep_back {s : ByteArray} {x : Rep} {r : List UInt8} (h : s.data.toList = repB x ++ r) (hm : mayRep x) : rdRep s = some (x, (repB x).length) := by
  obtain ⟨m1, m2, m3, m4, m5, m6, m7, m8⟩ := hm
  have hc : good x.code := ⟨by omega, by omega⟩
  unfold repB at h
  rw [List.append_assoc] at h
  have h1 := rdInts_back (s := s) (q := 0) [x.id, x.code] _ (by rw [List.drop_zero]; exact h) (by
    intro y hy
    simp only [List.mem_cons, List.not_mem_nil, or_false] at hy
    rcases hy with rfl | rfl
    · exact m1
    · exact hc)
  rw [Nat.zero_add] at h1
  have h1' : rdInts s 2 0 = some ([x.id, x.code], (layB [x.id, x.code]).length) := h1
  unfold rdRep
  rw [h1']
  have g0 : [x.id, x.code].getD 0 0 = x.id := rfl
  have g1 : [x.id, x.code].getD 1 0 = x.code := rfl
  simp only [g0, g1]
  rw [if_pos m2.2]
  by_cases h0 : x.code = 0
  · rw [if_pos h0]
    rw [if_pos h0, List.append_assoc] at h
    have hd : s.data.toList.drop (layB [x.id, x.code]).length = layB [b01 x.found, x.d, (x.hits.length : Int)] ++ (hitsB x.hits ++ r) := by rw [h, List.drop_left]
    have hb : b01 x.found = 0 ∨ b01 x.found = 1 := by unfold b01; split <;> simp
    have h2 := rdInts_back (s := s) (q := (layB [x.id, x.code]).length) [b01 x.found, x.d, (x.hits.length : Int)] _ hd (by
      intro y hy
      simp only [List.mem_cons, List.not_mem_nil, or_false] at hy
      unfold good
      rcases hy with rfl | rfl | rfl <;> omega)
    have h2' : rdInts s 3 (layB [x.id, x.code]).length = some ([b01 x.found, x.d, (x.hits.length : Int)], (layB [x.id, x.code]).length + (layB [b01 x.found, x.d, (x.hits.length : Int)]).length) := h2
    rw [h2']
    have k0 : [b01 x.found, x.d, (x.hits.length : Int)].getD 0 0 = b01 x.found := rfl
    have k1 : [b01 x.found, x.d, (x.hits.length : Int)].getD 1 0 = x.d := rfl
    have k2 : [b01 x.found, x.d, (x.hits.length : Int)].getD 2 0 = (x.hits.length : Int) := rfl
    simp only [k0, k1, k2]
    rw [if_pos ⟨by omega, by omega⟩, Int.toNat_natCast]
    have hd2 : s.data.toList.drop ((layB [x.id, x.code]).length + (layB [b01 x.found, x.d, (x.hits.length : Int)]).length) = hitsB x.hits ++ r := by
      rw [← List.drop_drop, hd, List.drop_left]
    rw [rdHits_back _ _ hd2 m8]
    have hf : decide (b01 x.found = 1) = x.found := by unfold b01; cases x.found <;> simp
    simp only [hf]
    congr 1
    refine Prod.ext ?_ ?_
    · rw [Rep.eq_iff]; exact ⟨rfl, h0.symm, rfl, rfl, rfl⟩
    · unfold repB
      rw [if_pos h0, List.length_append, List.length_append]
      simp only
      omega
  · rw [if_neg h0]
    obtain ⟨e1, e2, e3⟩ := m5 h0
    congr 1
    refine Prod.ext ?_ ?_
    · rw [Rep.eq_iff]; exact ⟨rfl, rfl, e1.symm, e2.symm, e3.symm⟩
    · unfold repB
      rw [if_neg h0, List.append_nil]

theorem pair_list {xs : List Int} (h : xs.length = 2) : xs = [xs.getD 0 0, xs.getD 1 0] := by
  match xs, h with
  | [a, b], _ => rfl
theorem three_list {xs : List Int} (h : xs.length = 3) : xs = [xs.getD 0 0, xs.getD 1 0, xs.getD 2 0] := by
  match xs, h with
  | [a, b, c], _ => rfl

theorem rdRep_same {s : ByteArray} {x : Rep} {p : Nat} (h : rdRep s = some (x, p)) : repB x = s.data.toList.take p ∧ p ≤ s.size := by
  unfold rdRep at h
  split at h
  · rename_i xs p1 h1
    obtain ⟨a1, a2, a3, a4⟩ := rdInts_same h1 (Nat.zero_le _)
    rw [List.drop_zero, Nat.sub_zero] at a3
    have hx := pair_list (rdInts_len h1)
    split at h
    · split at h
      · rename_i h0
        split at h
        · rename_i ys p2 h2
          obtain ⟨b1, b2, b3, b4⟩ := rdInts_same h2 a2
          have hy := three_list (rdInts_len h2)
          split at h
          · rename_i hc
            split at h
            · rename_i l p3 h3
              obtain ⟨c0, c1, c2, c3⟩ := rdHits_same h3 b2
              injection h with h
              injection h with e1 e2
              subst e1 e2
              refine ⟨?_, c2⟩
              have g0 := b4 (ys.getD 0 0) (by rw [hy]; simp)
              have g2 := b4 (ys.getD 2 0) (by rw [hy]; simp)
              have f1 : b01 (decide (ys.getD 0 0 = 1)) = ys.getD 0 0 := by
                unfold b01
                have := g0.1
                have := hc.1
                by_cases hq : ys.getD 0 0 = 1
                · rw [decide_eq_true hq, if_pos rfl, hq]
                · rw [decide_eq_false hq, if_neg (by simp)]; omega
              have f2 : ((l.length : Nat) : Int) = ys.getD 2 0 := by rw [c0]; have := g2.1; omega
              have f3 : layB [xs.getD 0 0, 0] = layB xs := by
                rw [h0] at hx
                exact congrArg layB hx.symm
              unfold repB
              simp only [if_true]
              rw [f1, f2, ← hy, f3, a3, b3, c3]
              rw [show p3 = p1 + ((p2 - p1) + (p3 - p2)) by omega, List.take_add, List.take_add, List.drop_drop, show p1 + (p2 - p1) = p2 by omega, show p1 + (p2 - p1 + (p3 - p2)) - p2 = p3 - p2 by omega]
            · cases h
          · cases h
        · cases h
      · rename_i h0
        injection h with h
        injection h with e1 e2
        subst e1 e2
        refine ⟨?_, a2⟩
        unfold repB
        rw [if_neg h0, List.append_nil]
        simp only
        rw [← hx, a3]
    · cases h
  · cases h

theorem repB_front {x y : Rep} {r r' : List UInt8} (hx : mayRep x) (hy : mayRep y) (h : repB x ++ r = repB y ++ r') : x = y ∧ r = r' := by
  have h1 := rdRep_back (s := ⟨(repB x ++ r).toArray⟩) (x := x) (r := r) rfl hx
  have h2 := rdRep_back (s := ⟨(repB x ++ r).toArray⟩) (x := y) (r := r') h hy
  rw [h1] at h2
  injection h2 with h2
  injection h2 with h2 h3
  subst h2
  exact ⟨rfl, List.append_cancel_left h⟩

theorem getRep_iff {s : ByteArray} {x : Rep} : getRep s = some x ↔ mayRep x ∧ s.data.toList = repB x := by
  unfold getRep
  constructor
  · intro h
    split at h
    · rename_i y p h1
      split at h
      · rename_i hc
        injection h with h
        subst h
        obtain ⟨e1, e2⟩ := rdRep_same h1
        refine ⟨hc.1, ?_⟩
        rw [e1, hc.2, ← size_list, List.take_length]
      · cases h
    · cases h
  · rintro ⟨hm, h⟩
    have h1 := rdRep_back (r := []) (by rw [List.append_nil]; exact h) hm
    rw [h1]
    simp only
    rw [if_pos ⟨hm, by rw [← size_list, h]⟩]
end Go.Proofs.Ytmnjlhifjjainaa
