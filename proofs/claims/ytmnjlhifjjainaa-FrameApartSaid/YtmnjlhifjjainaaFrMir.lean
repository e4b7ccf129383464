/-
  What the reference reads: plain laws.
-/
import Derived.Test.YtmnjlhifjjainaaFrCut
namespace Go.Proofs.Ytmnjlhifjjainaa
open Go.RowKit

/-- The next number of a reader. -/
def cN (s : ByteArray) (st : Int × Bool) : Int × Int × Bool := (anNum (rdAt s st.1), if (rdAt s st.1).isSome then anPlace (rdAt s st.1) else st.1, st.2 || !(rdAt s st.1).isSome)
def cT (s : ByteArray) (st : Int × Bool) : ByteArray × Int × Bool := (anText (rdText s st.1), if (rdText s st.1).isSome then anPlace (rdText s st.1) else st.1, st.2 || !(rdText s st.1).isSome)
def cWs (s : ByteArray) : Nat → Int × Bool → List ByteArray × Int × Bool
  | 0, st => ([], st)
  | k + 1, st => ((cWs s k st).1 ++ [(cT s (cWs s k st).2).1], (cT s (cWs s k st).2).2)
def cHs (s : ByteArray) : Nat → Int × Bool → List Hit × Int × Bool
  | 0, st => ([], st)
  | k + 1, st => ((cHs s k st).1 ++ [⟨(cN s (cHs s k st).2).1, (cN s (cN s (cHs s k st).2).2).1⟩], (cN s (cN s (cHs s k st).2).2).2)

theorem cN_some {s : ByteArray} {q : Nat} {b : Bool} {x p : Nat} (h : rdAt s q = some (x, p)) : cN s ((q : Int), b) = ((x : Int), (p : Int), b) := by
  simp [cN, h, anNum, anPlace]
theorem cT_some {s : ByteArray} {q : Nat} {b : Bool} {x : ByteArray} {p : Nat} (h : rdText s q = some (x, p)) : cT s ((q : Int), b) = (x, (p : Int), b) := by
  simp [cT, h, anText, anPlace]
theorem cWs_some {s : ByteArray} {q : Nat} {b : Bool} : ∀ {k : Nat} {l : List ByteArray} {p : Nat}, rdWords s k q = some (l, p) → cWs s k ((q : Int), b) = (l, (p : Int), b)
  | 0, l, p, h => by
    simp [rdWords] at h
    obtain ⟨rfl, rfl⟩ := h
    rfl
  | k + 1, l, p, h => by
    simp only [rdWords] at h
    split at h
    · rename_i l1 p1 h1
      split at h
      · rename_i t p2 h2
        injection h with h
        injection h with h3 h4
        subst h3 h4
        have := cWs_some (b := b) h1
        simp only [cWs, this, cT_some h2]
      · cases h
    · cases h
theorem rdInts_snoc {s : ByteArray} {k q p : Nat} {xs : List Int} (h : rdInts s (k + 1) q = some (xs, p)) : ∃ ys p1 x, rdInts s k q = some (ys, p1) ∧ rdAt s p1 = some (x, p) ∧ xs = ys ++ [(x : Int)] := by
  simp only [rdInts] at h
  split at h
  · rename_i ys p1 h1
    split at h
    · rename_i x p2 h2
      injection h with h
      injection h with h3 h4
      subst h3 h4
      exact ⟨_, _, _, h1, h2, rfl⟩
    · cases h
  · cases h
theorem rdInts_two {s : ByteArray} {q p : Nat} {xs : List Int} (h : rdInts s 2 q = some (xs, p)) : ∃ x p1 y, rdAt s q = some (x, p1) ∧ rdAt s p1 = some (y, p) ∧ xs = [(x : Int), (y : Int)] := by
  obtain ⟨ys, p1, y, h1, h2, rfl⟩ := rdInts_snoc h
  obtain ⟨zs, p0, x, h3, h4, rfl⟩ := rdInts_snoc h1
  simp [rdInts] at h3
  obtain ⟨rfl, rfl⟩ := h3
  exact ⟨x, p1, y, h4, h2, rfl⟩
theorem rdInts_three {s : ByteArray} {q p : Nat} {xs : List Int} (h : rdInts s 3 q = some (xs, p)) : ∃ x p1 y p2 z, rdAt s q = some (x, p1) ∧ rdAt s p1 = some (y, p2) ∧ rdAt s p2 = some (z, p) ∧ xs = [(x : Int), (y : Int), (z : Int)] := by
  obtain ⟨ys, p1, y, h1, h2, rfl⟩ := rdInts_snoc h
  obtain ⟨x, p0, y0, h3, h4, rfl⟩ := rdInts_two h1
  exact ⟨x, p0, y0, p1, y, h3, h4, h2, rfl⟩
theorem cHs_some {s : ByteArray} {q : Nat} {b : Bool} : ∀ {k : Nat} {l : List Hit} {p : Nat}, rdHits s k q = some (l, p) → cHs s k ((q : Int), b) = (l, (p : Int), b)
  | 0, l, p, h => by
    simp [rdHits] at h
    obtain ⟨rfl, rfl⟩ := h
    rfl
  | k + 1, l, p, h => by
    simp only [rdHits] at h
    split at h
    · rename_i l1 p1 h1
      split at h
      · rename_i t p2 h2
        injection h with h
        injection h with h3 h4
        subst h3 h4
        have := cHs_some (b := b) h1
        obtain ⟨x, p0, y, e1, e2, rfl⟩ := rdInts_two h2
        simp only [cHs, this, cN_some e1, cN_some e2]
        rfl
      · cases h
    · cases h

/-- What the reference has read of a request. -/
def mirQ (s : ByteArray) (kind : Int) (st : Int × Bool) : Qry × Int × Bool :=
  if kind = 3 then
    (⟨3, (cN s st).1, 0, (cWs s (min (cN s (cN s st).2).1.toNat 8) (cN s (cN s st).2).2).1, (cN s (cWs s (min (cN s (cN s st).2).1.toNat 8) (cN s (cN s st).2).2).2).1, (cN s (cN s (cWs s (min (cN s (cN s st).2).1.toNat 8) (cN s (cN s st).2).2).2).2).1⟩,
      (cN s (cN s (cWs s (min (cN s (cN s st).2).1.toNat 8) (cN s (cN s st).2).2).2).2).2)
  else if kind = 1 ∨ kind = 2 then (⟨kind, (cN s st).1, (cN s (cN s st).2).1, [], 0, 0⟩, (cN s (cN s st).2).2)
  else (noQ, st)
def mir (s : ByteArray) : Req × Int × Bool := (⟨(cN s (0, false)).1, (cN s (cN s (0, false)).2).1, (mirQ s (cN s (cN s (0, false)).2).1 (cN s (cN s (0, false)).2).2).1⟩, (mirQ s (cN s (cN s (0, false)).2).1 (cN s (cN s (0, false)).2).2).2)

theorem mir_get {s : ByteArray} {x : Req} (h : getReq s = some x) : (mir s).1 = x ∧ (mir s).2.2 = false := by
  unfold getReq at h
  split at h
  · rename_i y p h1
    split at h
    · rename_i hm
      injection h with h
      subst h
      obtain ⟨hm, -⟩ := hm
      unfold rdReq at h1
      split at h1
      · rename_i xs p1 hx
        obtain ⟨i, pi, k, e1, e2, rfl⟩ := rdInts_two hx
        have e1' : cN s (0, false) = ((i : Int), (pi : Int), false) := cN_some (q := 0) e1
        have e2' := cN_some (b := false) e2
        have g0 : [(i : Int), (k : Int)].getD 0 0 = (i : Int) := rfl
        have g1 : [(i : Int), (k : Int)].getD 1 0 = (k : Int) := rfl
        simp only [g0, g1] at h1
        unfold mir
        simp only [e1', e2']
        split at h1
        · split at h1
          · rename_i h4
            injection h1 with h1
            injection h1 with h1 _
            subst h1
            unfold mirQ
            rw [if_neg (by omega), if_neg (by omega), h4]
            exact ⟨rfl, rfl⟩
          · rename_i h4
            split at h1
            · rename_i ys p2 hy
              obtain ⟨a, pa, c, e3, e4, rfl⟩ := rdInts_two hy
              have k0 : [(a : Int), (c : Int)].getD 0 0 = (a : Int) := rfl
              have k1 : [(a : Int), (c : Int)].getD 1 0 = (c : Int) := rfl
              simp only [k0, k1] at h1
              have e3' := cN_some (b := false) e3
              have e4' := cN_some (b := false) e4
              split at h1
              · rename_i h3
                split at h1
                · rename_i h8
                  split at h1
                  · rename_i l p3 hw
                    split at h1
                    · rename_i zs p4 hz
                      obtain ⟨r, pr, m, e5, e6, rfl⟩ := rdInts_two hz
                      injection h1 with h1
                      injection h1 with h1 _
                      subst h1
                      have hw' := cWs_some (b := false) hw
                      have e5' := cN_some (b := false) e5
                      have e6' := cN_some (b := false) e6
                      unfold mirQ
                      rw [if_pos h3]
                      have hmin : min (c : Int).toNat 8 = (c : Int).toNat := by omega
                      simp only [e3', e4', hmin, hw', e5', e6', h3]
                      exact ⟨rfl, trivial⟩
                    · cases h1
                  · cases h1
                · cases h1
              · rename_i h3
                injection h1 with h1
                injection h1 with h1 _
                subst h1
                have hk := hm.2.2 h4
                have hk1 := hk.2.1.1
                simp only at hk1 h4
                unfold mirQ
                rw [if_neg h3, if_pos (by omega)]
                simp only [e3', e4']
                exact ⟨trivial, trivial⟩
            · cases h1
        · cases h1
      · cases h1
    · cases h
  · cases h

theorem mir_iff {s : ByteArray} : getReq s = if (mir s).2.2 = false ∧ mayReq (mir s).1 ∧ reqS (mir s).1 = s then some (mir s).1 else none := by
  split
  · rename_i h
    obtain ⟨-, h1, h2⟩ := h
    rw [getReq_iff]
    refine ⟨h1, ?_⟩
    unfold reqS at h2
    rw [if_pos h1] at h2
    exact (congrArg (fun t : ByteArray => t.data.toList) h2).symm
  · rename_i h
    cases hg : getReq s with
    | none => rfl
    | some x =>
      exfalso
      obtain ⟨h1, h2⟩ := mir_get hg
      rw [getReq_iff] at hg
      refine h ⟨h2, by rw [h1]; exact hg.1, ?_⟩
      rw [h1]
      unfold reqS
      rw [if_pos hg.1]
      refine bytes_ext ?_
      rw [hg.2]

/-- What the reference has read of a reply. -/
def mirP (s : ByteArray) : Rep × Int × Bool :=
  if (cN s (cN s (0, false)).2).1 = 0 then
    (⟨(cN s (0, false)).1, (cN s (cN s (0, false)).2).1, decide ((cN s (cN s (cN s (0, false)).2).2).1 = 1), (cN s (cN s (cN s (cN s (0, false)).2).2).2).1,
      (cHs s (min (cN s (cN s (cN s (cN s (cN s (0, false)).2).2).2).2).1.toNat 101) (cN s (cN s (cN s (cN s (cN s (0, false)).2).2).2).2).2).1⟩,
      (cHs s (min (cN s (cN s (cN s (cN s (cN s (0, false)).2).2).2).2).1.toNat 101) (cN s (cN s (cN s (cN s (cN s (0, false)).2).2).2).2).2).2)
  else (⟨(cN s (0, false)).1, (cN s (cN s (0, false)).2).1, false, 0, []⟩, (cN s (cN s (0, false)).2).2)

theorem mirP_get {s : ByteArray} {x : Rep} (h : getRep s = some x) : (mirP s).1 = x ∧ (mirP s).2.2 = false := by
  unfold getRep at h
  split at h
  · rename_i y p h1
    split at h
    · rename_i hm
      injection h with h
      subst h
      obtain ⟨hm, -⟩ := hm
      unfold rdRep at h1
      split at h1
      · rename_i xs p1 hx
        obtain ⟨i, pi, k, e1, e2, rfl⟩ := rdInts_two hx
        have e1' : cN s (0, false) = ((i : Int), (pi : Int), false) := cN_some (q := 0) e1
        have e2' := cN_some (b := false) e2
        have g0 : [(i : Int), (k : Int)].getD 0 0 = (i : Int) := rfl
        have g1 : [(i : Int), (k : Int)].getD 1 0 = (k : Int) := rfl
        simp only [g0, g1] at h1
        unfold mirP
        simp only [e1', e2']
        split at h1
        · split at h1
          · rename_i h0
            rw [if_pos h0]
            split at h1
            · rename_i ys p2 hy
              obtain ⟨a, pa, c, pc, n, e3, e4, e5, rfl⟩ := rdInts_three hy
              have k0 : [(a : Int), (c : Int), (n : Int)].getD 0 0 = (a : Int) := rfl
              have k1 : [(a : Int), (c : Int), (n : Int)].getD 1 0 = (c : Int) := rfl
              have k2 : [(a : Int), (c : Int), (n : Int)].getD 2 0 = (n : Int) := rfl
              simp only [k0, k1, k2] at h1
              have e3' := cN_some (b := false) e3
              have e4' := cN_some (b := false) e4
              have e5' := cN_some (b := false) e5
              split at h1
              · rename_i hb
                split at h1
                · rename_i l p3 hw
                  injection h1 with h1
                  injection h1 with h1 _
                  subst h1
                  have hw' := cHs_some (b := false) hw
                  have hmin : min (n : Int).toNat 101 = (n : Int).toNat := by omega
                  simp only [e3', e4', e5', hmin, hw', h0]
                  exact ⟨trivial, trivial⟩
                · cases h1
              · cases h1
            · cases h1
          · rename_i h0
            rw [if_neg h0]
            injection h1 with h1
            injection h1 with h1 _
            subst h1
            exact ⟨rfl, rfl⟩
        · cases h1
      · cases h1
    · cases h
  · cases h

theorem mirP_iff {s : ByteArray} : getRep s = if (mirP s).2.2 = false ∧ mayRep (mirP s).1 ∧ repS (mirP s).1 = s then some (mirP s).1 else none := by
  split
  · rename_i h
    obtain ⟨-, h1, h2⟩ := h
    rw [getRep_iff]
    refine ⟨h1, ?_⟩
    unfold repS at h2
    rw [if_pos h1] at h2
    exact (congrArg (fun t : ByteArray => t.data.toList) h2).symm
  · rename_i h
    cases hg : getRep s with
    | none => rfl
    | some x =>
      exfalso
      obtain ⟨h1, h2⟩ := mirP_get hg
      rw [getRep_iff] at hg
      refine h ⟨h2, by rw [h1]; exact hg.1, ?_⟩
      rw [h1]
      unfold repS
      rw [if_pos hg.1]
      refine bytes_ext ?_
      rw [hg.2]
end Go.Proofs.Ytmnjlhifjjainaa
