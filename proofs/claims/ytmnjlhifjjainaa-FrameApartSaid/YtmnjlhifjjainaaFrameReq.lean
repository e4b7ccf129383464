/-
  Requests as bytes: plain laws.
-/
import Derived.Test.YtmnjlhifjjainaaRdInts
import Derived.Test.YtmnjlhifjjainaaNText
import Derived.Test.YtmnjlhifjjainaaFrameRep
namespace Go.Proofs.Ytmnjlhifjjainaa
open Go.RowKit

structure Qry where
  kind : Int
  src : Int
  dst : Int
  words : List ByteArray
  radius : Int
  most : Int
theorem Qry.eq_iff (a b : Qry) : a = b ↔ a.kind = b.kind ∧ a.src = b.src ∧ a.dst = b.dst ∧ a.words = b.words ∧ a.radius = b.radius ∧ a.most = b.most := by cases a; cases b; simp
instance : DecidableEq Qry := fun a b => decidable_of_iff _ (Qry.eq_iff a b).symm
structure Req where
  id : Int
  kind : Int
  q : Qry
theorem Req.eq_iff (a b : Req) : a = b ↔ a.id = b.id ∧ a.kind = b.kind ∧ a.q = b.q := by cases a; cases b; simp
instance : DecidableEq Req := fun a b => decidable_of_iff _ (Req.eq_iff a b).symm

def isWord (s : ByteArray) : Prop := (1 ≤ s.size ∧ s.size ≤ 12) ∧ ∀ c ∈ s.data.toList, 97 ≤ c.toNat ∧ c.toNat ≤ 122
instance (s : ByteArray) : Decidable (isWord s) := by unfold isWord; infer_instance
def place (v : Int) : Prop := 0 ≤ v ∧ v < 200
instance (v : Int) : Decidable (place v) := by unfold place; infer_instance
/-- May a query be? -/
def chkQ (q : Qry) : Prop := (1 ≤ q.kind ∧ q.kind ≤ 3) ∧ place q.src ∧ (q.kind < 3 → place q.dst) ∧
  (q.kind = 3 → (1 ≤ q.words.length ∧ q.words.length ≤ 8) ∧ (0 ≤ q.radius ∧ q.radius ≤ 200) ∧ (1 ≤ q.most ∧ q.most ≤ 100) ∧ ∀ w ∈ q.words, isWord w)
instance (q : Qry) : Decidable (chkQ q) := by unfold chkQ; infer_instance
def noQ : Qry := ⟨0, 0, 0, [], 0, 0⟩
/-- May a request be? -/
def mayReq (x : Req) : Prop := good x.id ∧ (x.kind = 4 → x.q = noQ) ∧ (x.kind ≠ 4 → x.q.kind = x.kind ∧ chkQ x.q ∧ (x.kind = 3 → x.q.dst = 0) ∧ (x.kind ≠ 3 → x.q.words = [] ∧ x.q.radius = 0 ∧ x.q.most = 0))
instance (x : Req) : Decidable (mayReq x) := by unfold mayReq; infer_instance

def wordsB (l : List ByteArray) : List UInt8 := l.flatMap fun w => (textStr w).data.toList
theorem wordsB_snoc (l : List ByteArray) (w : ByteArray) : wordsB (l ++ [w]) = wordsB l ++ (textStr w).data.toList := by simp [wordsB]
/-- A request's bytes. -/
def reqB (x : Req) : List UInt8 := layB [x.id, x.kind] ++
  if x.kind = 3 then layB [x.q.src, (x.q.words.length : Int)] ++ wordsB x.q.words ++ layB [x.q.radius, x.q.most] else if x.kind = 4 then [] else layB [x.q.src, x.q.dst]
def reqS (x : Req) : ByteArray := if mayReq x then ⟨(reqB x).toArray⟩ else ⟨#[]⟩

/-- So many texts. -/
def rdWords (s : ByteArray) : Nat → Nat → Option (List ByteArray × Nat)
  | 0, q => some ([], q)
  | k + 1, q => match rdWords s k q with
    | some (l, p) => match rdText s p with
      | some (t, p') => some (l ++ [t], p')
      | none => none
    | none => none
theorem rdWords_none {s : ByteArray} {k q : Nat} (h : rdWords s k q = none) : ∀ n, k ≤ n → rdWords s n q = none := by
  intro n hn
  induction hn with
  | refl => exact h
  | step _ ih => simp only [rdWords, ih]
theorem rdWords_more {s : ByteArray} {k q p p2 : Nat} {l : List ByteArray} {t : ByteArray} (h : rdWords s k q = some (l, p)) (h2 : rdText s p = some (t, p2)) : rdWords s (k + 1) q = some (l ++ [t], p2) := by
  simp only [rdWords, h, h2]
theorem rdWords_stop {s : ByteArray} {k q p n : Nat} {l : List ByteArray} (h : rdWords s k q = some (l, p)) (h2 : rdText s p = none) (hk : k < n) : rdWords s n q = none :=
  rdWords_none (k := k + 1) (by simp only [rdWords, h, h2]) n (by omega)
theorem rdWords_same {s : ByteArray} : ∀ {k q : Nat} {l : List ByteArray} {p : Nat}, rdWords s k q = some (l, p) → q ≤ s.size → l.length = k ∧ q ≤ p ∧ p ≤ s.size ∧ wordsB l = (s.data.toList.drop q).take (p - q)
  | 0, q, l, p, h, hq => by
    simp [rdWords] at h
    obtain ⟨rfl, rfl⟩ := h
    exact ⟨rfl, Nat.le_refl _, hq, by simp [wordsB]⟩
  | k + 1, q, l, p, h, hq => by
    simp only [rdWords] at h
    split at h
    · rename_i l1 p1 h1
      split at h
      · rename_i t p2 h2
        injection h with h
        injection h with h3 h4
        subst h3 h4
        obtain ⟨i0, i1, i2, i3⟩ := rdWords_same h1 hq
        obtain ⟨a1, a2, a3, a4, a5⟩ := rdText_same h2
        rw [Int.toNat_natCast] at a5
        have hp : p1 ≤ p2 := by omega
        have e1 : (textStr t).data.toList = (s.data.toList.drop p1).take (p2 - p1) := by
          rw [a5, ← extract_data, show p1 + (p2 - p1) = p2 by omega]
        refine ⟨by simp [i0], by omega, a3, ?_⟩
        rw [wordsB_snoc, i3, e1, show p2 - q = (p1 - q) + (p2 - p1) by omega, List.take_add, List.drop_drop, show q + (p1 - q) = p1 by omega]
      · cases h
    · cases h
theorem rdWords_back {s : ByteArray} {q : Nat} : ∀ (l : List ByteArray) (r : List UInt8), s.data.toList.drop q = wordsB l ++ r → (∀ w ∈ l, w.size ≤ 4000) → rdWords s l.length q = some (l, q + (wordsB l).length) := by
  refine snoc_ind (fun r _ _ => rfl) fun l m ih r h hg => ?_
  have hm := hg m (by simp)
  rw [wordsB_snoc, List.append_assoc] at h
  have h1 := ih _ h (fun y hy => hg y (by simp [hy]))
  have hd : s.data.toList.drop (q + (wordsB l).length) = numBytes m.size ++ (m.data.toList ++ r) := by
    rw [← List.drop_drop, h, List.drop_left, textStr_list hm, List.append_assoc]
  have h2 := rdText_back hd hm
  rw [List.length_append, List.length_singleton, rdWords_more h1 h2, wordsB_snoc, List.length_append, textStr_list hm, List.length_append, size_list]
  simp only [Nat.add_assoc]

/-- What is read of bytes, so far: a request, and the place behind it. -/
def rdReq (s : ByteArray) : Option (Req × Nat) :=
  match rdInts s 2 0 with
  | some (xs, p) =>
    if xs.getD 1 0 ≤ 4 then
      (if xs.getD 1 0 = 4 then some (⟨xs.getD 0 0, 4, noQ⟩, p)
      else match rdInts s 2 p with
        | some (ys, p2) =>
          if xs.getD 1 0 = 3 then
            (if ys.getD 1 0 ≤ 8 then
              (match rdWords s (ys.getD 1 0).toNat p2 with
              | some (l, p3) => (match rdInts s 2 p3 with
                | some (zs, p4) => some (⟨xs.getD 0 0, 3, ⟨3, ys.getD 0 0, 0, l, zs.getD 0 0, zs.getD 1 0⟩⟩, p4)
                | none => none)
              | none => none)
            else none)
          else some (⟨xs.getD 0 0, xs.getD 1 0, ⟨xs.getD 1 0, ys.getD 0 0, ys.getD 1 0, [], 0, 0⟩⟩, p2)
        | none => none)
    else none
  | none => none

def getReq (s : ByteArray) : Option Req :=
  match rdReq s with
  | some (x, p) => if mayReq x ∧ p = s.size then some x else none
  | none => none

theorem rdReq_back {s : ByteArray} {x : Req} {r : List UInt8} (h : s.data.toList = reqB x ++ r) (hm : mayReq x) : rdReq s = some (x, (reqB x).length) := by
  obtain ⟨m1, m2, m3⟩ := hm
  have hk : 1 ≤ x.kind ∧ x.kind ≤ 4 := by
    by_cases h4 : x.kind = 4
    · omega
    · obtain ⟨e1, e2, -⟩ := m3 h4
      have := e2.1
      omega
  have hgk : good x.kind := ⟨by omega, by omega⟩
  unfold reqB at h
  rw [List.append_assoc] at h
  have h1 : rdInts s 2 0 = some ([x.id, x.kind], 0 + (layB [x.id, x.kind]).length) := rdInts_back (s := s) (q := 0) [x.id, x.kind] _ (by rw [List.drop_zero]; exact h) (by
    intro y hy
    simp only [List.mem_cons, List.not_mem_nil, or_false] at hy
    rcases hy with rfl | rfl
    · exact m1
    · exact hgk)
  rw [Nat.zero_add] at h1
  unfold rdReq
  rw [h1]
  have g0 : [x.id, x.kind].getD 0 0 = x.id := rfl
  have g1 : [x.id, x.kind].getD 1 0 = x.kind := rfl
  simp only [g0, g1]
  rw [if_pos hk.2]
  by_cases h4 : x.kind = 4
  · rw [if_pos h4]
    congr 1
    refine Prod.ext ?_ ?_
    · rw [Req.eq_iff]; exact ⟨rfl, h4.symm, (m2 h4).symm⟩
    · unfold reqB
      rw [if_neg (by omega), if_pos h4, List.append_nil]
  · rw [if_neg h4]
    obtain ⟨e1, ⟨-, e2, e3, e4⟩, e5, e6⟩ := m3 h4
    by_cases h3 : x.kind = 3
    · obtain ⟨w1, w2, w3, w4⟩ := e4 (by omega)
      rw [if_pos h3, List.append_assoc, List.append_assoc] at h
      have hd : s.data.toList.drop (layB [x.id, x.kind]).length = layB [x.q.src, (x.q.words.length : Int)] ++ (wordsB x.q.words ++ (layB [x.q.radius, x.q.most] ++ r)) := by rw [h, List.drop_left]
      have h2 : rdInts s 2 (layB [x.id, x.kind]).length = some ([x.q.src, (x.q.words.length : Int)], (layB [x.id, x.kind]).length + (layB [x.q.src, (x.q.words.length : Int)]).length) := rdInts_back (s := s) (q := (layB [x.id, x.kind]).length) [x.q.src, (x.q.words.length : Int)] _ hd (by
        intro y hy
        unfold place at e2
        simp only [List.mem_cons, List.not_mem_nil, or_false] at hy
        unfold good
        rcases hy with rfl | rfl <;> omega)
      rw [h2]
      have k0 : [x.q.src, (x.q.words.length : Int)].getD 0 0 = x.q.src := rfl
      have k1 : [x.q.src, (x.q.words.length : Int)].getD 1 0 = (x.q.words.length : Int) := rfl
      simp only [k0, k1]
      rw [if_pos h3, if_pos (by omega), Int.toNat_natCast]
      have hd2 : s.data.toList.drop ((layB [x.id, x.kind]).length + (layB [x.q.src, (x.q.words.length : Int)]).length) = wordsB x.q.words ++ (layB [x.q.radius, x.q.most] ++ r) := by
        rw [← List.drop_drop, hd, List.drop_left]
      rw [rdWords_back _ _ hd2 (fun w hw => by have := (w4 w hw).1; omega)]
      have hd3 : s.data.toList.drop ((layB [x.id, x.kind]).length + (layB [x.q.src, (x.q.words.length : Int)]).length + (wordsB x.q.words).length) = layB [x.q.radius, x.q.most] ++ r := by
        rw [← List.drop_drop, hd2, List.drop_left]
      have h5 := rdInts_back [x.q.radius, x.q.most] _ hd3 (by
        intro y hy
        simp only [List.mem_cons, List.not_mem_nil, or_false] at hy
        unfold good
        rcases hy with rfl | rfl <;> omega)
      have h5' : rdInts s 2 ((layB [x.id, x.kind]).length + (layB [x.q.src, (x.q.words.length : Int)]).length + (wordsB x.q.words).length) = _ := h5
      simp only [h5']
      have j0 : [x.q.radius, x.q.most].getD 0 0 = x.q.radius := rfl
      have j1 : [x.q.radius, x.q.most].getD 1 0 = x.q.most := rfl
      simp only [j0, j1]
      congr 1
      refine Prod.ext ?_ ?_
      · rw [Req.eq_iff]
        refine ⟨rfl, h3.symm, ?_⟩
        rw [Qry.eq_iff]
        exact ⟨by simp only; omega, rfl, (e5 h3).symm, rfl, rfl, rfl⟩
      · unfold reqB
        rw [if_pos h3, List.length_append, List.length_append, List.length_append]
        simp only
        omega
    · obtain ⟨z1, z2, z3⟩ := e6 h3
      have e3 := e3 (by omega)
      rw [if_neg h3, if_neg h4] at h
      have hd : s.data.toList.drop (layB [x.id, x.kind]).length = layB [x.q.src, x.q.dst] ++ r := by rw [h, List.drop_left]
      have h2 : rdInts s 2 (layB [x.id, x.kind]).length = some ([x.q.src, x.q.dst], (layB [x.id, x.kind]).length + (layB [x.q.src, x.q.dst]).length) := rdInts_back (s := s) (q := (layB [x.id, x.kind]).length) [x.q.src, x.q.dst] _ hd (by
        intro y hy
        unfold place at e2 e3
        simp only [List.mem_cons, List.not_mem_nil, or_false] at hy
        unfold good
        rcases hy with rfl | rfl <;> omega)
      rw [h2]
      have k0 : [x.q.src, x.q.dst].getD 0 0 = x.q.src := rfl
      have k1 : [x.q.src, x.q.dst].getD 1 0 = x.q.dst := rfl
      simp only [k0, k1]
      rw [if_neg h3]
      congr 1
      refine Prod.ext ?_ ?_
      · rw [Req.eq_iff]
        refine ⟨rfl, rfl, ?_⟩
        rw [Qry.eq_iff]
        exact ⟨e1.symm, rfl, rfl, z1.symm, z2.symm, z3.symm⟩
      · unfold reqB
        rw [if_neg h3, if_neg h4, List.length_append]

theorem rdReq_same {s : ByteArray} {x : Req} {p : Nat} (h : rdReq s = some (x, p)) : reqB x = s.data.toList.take p ∧ p ≤ s.size := by
  unfold rdReq at h
  split at h
  · rename_i xs p1 h1
    obtain ⟨a1, a2, a3, a4⟩ := rdInts_same h1 (Nat.zero_le _)
    rw [List.drop_zero, Nat.sub_zero] at a3
    have hx := pair_list (rdInts_len h1)
    split at h
    · split at h
      · rename_i h4
        injection h with h
        injection h with e1 e2
        subst e1 e2
        refine ⟨?_, a2⟩
        unfold reqB
        simp only [show ¬ ((4 : Int) = 3) by omega, if_false, if_true, List.append_nil]
        rw [← h4, ← hx, a3]
      · rename_i h4
        split at h
        · rename_i ys p2 h2
          obtain ⟨b1, b2, b3, b4⟩ := rdInts_same h2 a2
          have hy := pair_list (rdInts_len h2)
          split at h
          · rename_i h3
            split at h
            · split at h
              · rename_i l p3 hw
                obtain ⟨c0, c1, c2, c3⟩ := rdWords_same hw b2
                split at h
                · rename_i zs p4 hz
                  obtain ⟨d1, d2, d3, d4⟩ := rdInts_same hz c2
                  have hzz := pair_list (rdInts_len hz)
                  injection h with h
                  injection h with e1 e2
                  subst e1 e2
                  refine ⟨?_, d2⟩
                  have g2 := b4 (ys.getD 1 0) (by rw [hy]; simp)
                  have f2 : ((l.length : Nat) : Int) = ys.getD 1 0 := by rw [c0]; have := g2.1; omega
                  unfold reqB
                  simp only [if_true]
                  rw [f2, ← hy, ← hzz, show layB [xs.getD 0 0, 3] = layB xs by rw [← h3, ← hx], a3, b3, c3, d3]
                  rw [show p4 = p1 + ((p2 - p1) + ((p3 - p2) + (p4 - p3))) by omega, List.take_add, List.take_add, List.take_add, List.drop_drop, List.drop_drop, show p1 + (p2 - p1) = p2 by omega, show p2 + (p3 - p2) = p3 by omega, List.append_assoc,
                    show p1 + (p2 - p1 + (p3 - p2 + (p4 - p3))) - p3 = p4 - p3 by omega]
                · cases h
              · cases h
            · cases h
          · rename_i h3
            injection h with h
            injection h with e1 e2
            subst e1 e2
            refine ⟨?_, b2⟩
            unfold reqB
            simp only [if_neg h3, if_neg h4]
            rw [← hx, ← hy, a3, b3, show p2 = p1 + (p2 - p1) by omega, List.take_add, show p1 + (p2 - p1) - p1 = p2 - p1 by omega]
        · cases h
    · cases h
  · cases h

theorem reqB_front {x y : Req} {r r' : List UInt8} (hx : mayReq x) (hy : mayReq y) (h : reqB x ++ r = reqB y ++ r') : x = y ∧ r = r' := by
  have h1 := rdReq_back (s := ⟨(reqB x ++ r).toArray⟩) (x := x) (r := r) rfl hx
  have h2 := rdReq_back (s := ⟨(reqB x ++ r).toArray⟩) (x := y) (r := r') h hy
  rw [h1] at h2
  injection h2 with h2
  injection h2 with h2 h3
  subst h2
  exact ⟨rfl, List.append_cancel_left h⟩

theorem getReq_iff {s : ByteArray} {x : Req} : getReq s = some x ↔ mayReq x ∧ s.data.toList = reqB x := by
  unfold getReq
  constructor
  · intro h
    split at h
    · rename_i y p h1
      split at h
      · rename_i hc
        injection h with h
        subst h
        obtain ⟨e1, e2⟩ := rdReq_same h1
        refine ⟨hc.1, ?_⟩
        rw [e1, hc.2, ← size_list, List.take_length]
      · cases h
    · cases h
  · rintro ⟨hm, h⟩
    have h1 := rdReq_back (r := []) (by rw [List.append_nil]; exact h) hm
    rw [h1]
    simp only
    rw [if_pos ⟨hm, by rw [← size_list, h]⟩]
end Go.Proofs.Ytmnjlhifjjainaa
