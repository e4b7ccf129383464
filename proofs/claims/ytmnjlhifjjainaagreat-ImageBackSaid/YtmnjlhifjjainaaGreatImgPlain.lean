/-
  Graphs, their images, and what is read of bytes: plain laws.
-/
import Derived.Test.YtmnjlhifjjainaaGreatWireLaws
namespace Go.Proofs.YtmnjlhifjjainaaGreat

structure Edg where
  src : Int
  dst : Int
theorem Edg.eq_iff (a b : Edg) : a = b ↔ a.src = b.src ∧ a.dst = b.dst := by cases a; cases b; simp
instance : DecidableEq Edg := fun a b => decidable_of_iff _ (Edg.eq_iff a b).symm
structure Gr where
  n : Int
  es : List Edg
  ws : List (List ByteArray)
theorem Gr.eq_iff (a b : Gr) : a = b ↔ a.n = b.n ∧ a.es = b.es ∧ a.ws = b.ws := by cases a; cases b; simp
instance : DecidableEq Gr := fun a b => decidable_of_iff _ (Gr.eq_iff a b).symm

/-- Elements that rise. -/
def Rises {α : Type} (lt : α → α → Prop) : List α → Prop
  | a :: b :: l => lt a b ∧ Rises lt (b :: l)
  | _ => True
def decRises {α : Type} (lt : α → α → Prop) (d : ∀ a b, Decidable (lt a b)) : (l : List α) → Decidable (Rises lt l)
  | [] => .isTrue trivial
  | [_] => .isTrue trivial
  | a :: b :: l => @instDecidableAnd _ _ (d a b) (decRises lt d (b :: l))
theorem rises_iff {α : Type} (lt : α → α → Prop) : ∀ l : List α, Rises lt l ↔ ∀ k a b, l[k]? = some a → l[k + 1]? = some b → lt a b
  | [] => ⟨fun _ k a b h => by simp at h, fun _ => trivial⟩
  | [x] => ⟨fun _ k a b _ h => by simp at h, fun _ => trivial⟩
  | x :: y :: l => by
    show lt x y ∧ Rises lt (y :: l) ↔ _
    rw [rises_iff lt (y :: l)]
    constructor
    · rintro ⟨h1, h2⟩ k a b ha hb
      cases k with
      | zero =>
        simp at ha hb
        subst ha hb
        exact h1
      | succ k => exact h2 k a b (by simpa using ha) (by simpa using hb)
    · intro h
      exact ⟨h 0 x y rfl rfl, fun k a b ha hb => h (k + 1) a b (by simpa using ha) (by simpa using hb)⟩
theorem rises_pair {α : Type} (lt : α → α → Prop) (tr : ∀ a b c, lt a b → lt b c → lt a c) : ∀ l : List α, Rises lt l → l.Pairwise lt
  | [], _ => List.Pairwise.nil
  | [x], _ => by simp
  | x :: y :: l, h => by
    obtain ⟨h1, h2⟩ : lt x y ∧ Rises lt (y :: l) := h
    have ih := rises_pair lt tr (y :: l) h2
    refine List.Pairwise.cons (fun z hz => ?_) ih
    rcases List.mem_cons.1 hz with rfl | hz
    · exact h1
    · exact tr _ _ _ h1 ((List.pairwise_cons.1 ih).1 z hz)

def isWord (s : ByteArray) : Prop := (1 ≤ s.size ∧ s.size ≤ 12) ∧ ∀ c ∈ s.data.toList, 97 ≤ c.toNat ∧ c.toNat ≤ 122
instance (s : ByteArray) : Decidable (isWord s) := by unfold isWord; infer_instance
def place (n v : Int) : Prop := 0 ≤ v ∧ v < n
instance (n v : Int) : Decidable (place n v) := by unfold place; infer_instance
def placeE (n : Int) (e : Edg) : Prop := place n e.src ∧ place n e.dst
instance (n : Int) (e : Edg) : Decidable (placeE n e) := by unfold placeE; infer_instance
def wordsOk (l : List ByteArray) : Prop := l.length ≤ 8 ∧ ∀ w ∈ l, isWord w
instance (l : List ByteArray) : Decidable (wordsOk l) := by unfold wordsOk; infer_instance
def checkG (g : Gr) : Prop := (1 ≤ g.n ∧ g.n ≤ 200) ∧ g.es.length ≤ 2000 ∧ (g.ws.length : Int) = g.n ∧ (∀ e ∈ g.es, placeE g.n e) ∧ ∀ l ∈ g.ws, wordsOk l
instance (g : Gr) : Decidable (checkG g) := by unfold checkG; infer_instance
def lessE (a b : Edg) : Prop := a.src < b.src ∨ (a.src = b.src ∧ a.dst < b.dst)
instance (a b : Edg) : Decidable (lessE a b) := by unfold lessE; infer_instance
def ltW (a b : ByteArray) : Prop := a.toList < b.toList
instance (a b : ByteArray) : Decidable (ltW a b) := by unfold ltW; infer_instance
def riseE (l : List Edg) : Prop := Rises lessE l
def riseW (l : List ByteArray) : Prop := Rises ltW l
instance (l : List Edg) : Decidable (riseE l) := decRises lessE (fun _ _ => inferInstance) l
instance (l : List ByteArray) : Decidable (riseW l) := decRises ltW (fun _ _ => inferInstance) l
def isG (g : Gr) : Prop := checkG g ∧ riseE g.es ∧ ∀ l ∈ g.ws, riseW l
instance (g : Gr) : Decidable (isG g) := by unfold isG; infer_instance

/-- Where a place's edges lead to. -/
def toOf (es : List Edg) (v : Nat) : List Int := (es.filter fun e => e.src == (v : Int)).map Edg.dst
theorem toOf_append (l m : List Edg) (v : Nat) : toOf (l ++ m) v = toOf l v ++ toOf m v := by simp [toOf]
theorem toOf_snoc (l : List Edg) (x : Edg) (v : Nat) : toOf (l ++ [x]) v = if x.src = v then toOf l v ++ [x.dst] else toOf l v := by
  unfold toOf
  rw [List.filter_append]
  by_cases h : x.src = v
  · simp [h]
  · simp [h]
theorem toOf_le (es : List Edg) (v : Nat) : (toOf es v).length ≤ es.length := by
  unfold toOf
  rw [List.length_map]
  exact List.length_filter_le _ _
theorem toOf_good {g : Gr} (h : checkG g) (v : Nat) : allGood (toOf g.es v) := by
  refine ⟨by have := toOf_le g.es v; have := h.2.1; omega, fun x hx => ?_⟩
  simp only [toOf, List.mem_map, List.mem_filter] at hx
  obtain ⟨e, ⟨he, _⟩, rfl⟩ := hx
  obtain ⟨-, h1, h2⟩ := h.2.2.2.1 e he
  have := h.1.2
  exact ⟨h1, by omega⟩

def wordsB (l : List ByteArray) : List UInt8 := l.flatMap fun w => (textStr w).data.toList
theorem wordsB_snoc (l : List ByteArray) (w : ByteArray) : wordsB (l ++ [w]) = wordsB l ++ (textStr w).data.toList := by simp [wordsB]
/-- A place's bytes. -/
def placeB (p : List Int × List ByteArray) : List UInt8 := rowBytes p.1 ++ (numBytes p.2.length ++ wordsB p.2)
def placesB (ps : List (List Int × List ByteArray)) : List UInt8 := ps.flatMap placeB
theorem placesB_snoc (ps : List (List Int × List ByteArray)) (p : List Int × List ByteArray) : placesB (ps ++ [p]) = placesB ps ++ placeB p := by simp [placesB]
def pl (g : Gr) (v : Nat) : List Int × List ByteArray := (toOf g.es v, g.ws.getD v [])
def bodyB (g : Gr) (k : Nat) : List UInt8 := placesB ((List.range k).map (pl g))
theorem bodyB_zero (g : Gr) : bodyB g 0 = [] := rfl
theorem bodyB_succ (g : Gr) (k : Nat) : bodyB g (k + 1) = bodyB g k ++ placeB (pl g k) := by
  unfold bodyB
  rw [List.range_succ, List.map_append, List.map_singleton, placesB_snoc]
/-- A graph's image. -/
def imgB (g : Gr) : List UInt8 := [119, 103] ++ (numBytes g.n.toNat ++ bodyB g g.ws.length)
def printS (g : Gr) : ByteArray := if isG g then ⟨(imgB g).toArray⟩ else ⟨#[]⟩
def printE (g : Gr) : Int := if isG g then 0 else 20

theorem snoc_ind {α : Type} {p : List α → Prop} (h0 : p []) (h1 : ∀ l x, p l → p (l ++ [x])) : ∀ l, p l := by
  intro l
  have key : ∀ m : List α, p m.reverse := by
    intro m
    induction m with
    | nil => exact h0
    | cons a m ih => rw [List.reverse_cons]; exact h1 _ _ ih
  have := key l.reverse
  rwa [List.reverse_reverse] at this

/-- So many texts. -/
def rdWords (s : ByteArray) : Nat → Nat → Option (List ByteArray × Nat)
  | 0, q => some ([], q)
  | k + 1, q => match rdWords s k q with
    | some (l, p) => match rdText s p with
      | some (t, p') => some (l ++ [t], p')
      | none => none
    | none => none
theorem rdWords_none {s : ByteArray} {k q : Nat} (h : rdWords s k q = none) : ∀ n, k ≤ n → rdWords s n q = none := by
  intro n hn
  induction hn with
  | refl => exact h
  | step _ ih => simp only [rdWords, ih]
theorem rdWords_more {s : ByteArray} {k q p p2 : Nat} {l : List ByteArray} {t : ByteArray} (h : rdWords s k q = some (l, p)) (h2 : rdText s p = some (t, p2)) : rdWords s (k + 1) q = some (l ++ [t], p2) := by
  simp only [rdWords, h, h2]
theorem rdWords_stop {s : ByteArray} {k q p n : Nat} {l : List ByteArray} (h : rdWords s k q = some (l, p)) (h2 : rdText s p = none) (hk : k < n) : rdWords s n q = none :=
  rdWords_none (k := k + 1) (by simp only [rdWords, h, h2]) n (by omega)
theorem rdWords_same {s : ByteArray} : ∀ {k q : Nat} {l : List ByteArray} {p : Nat}, rdWords s k q = some (l, p) → q ≤ s.size → l.length = k ∧ q ≤ p ∧ p ≤ s.size ∧ wordsB l = (s.data.toList.drop q).take (p - q) ∧ ∀ w ∈ l, w.size ≤ 4000
  | 0, q, l, p, h, hq => by
    simp [rdWords] at h
    obtain ⟨rfl, rfl⟩ := h
    exact ⟨rfl, Nat.le_refl _, hq, by simp [wordsB], fun w hw => by simp at hw⟩
  | k + 1, q, l, p, h, hq => by
    simp only [rdWords] at h
    split at h
    · rename_i l1 p1 h1
      split at h
      · rename_i t p2 h2
        injection h with h
        injection h with h3 h4
        subst h3 h4
        obtain ⟨i0, i1, i2, i3, i4⟩ := rdWords_same h1 hq
        obtain ⟨a1, a2, a3, a4, a5⟩ := rdText_same h2
        rw [Int.toNat_natCast] at a5
        have hp : p1 ≤ p2 := by omega
        have e1 : (textStr t).data.toList = (s.data.toList.drop p1).take (p2 - p1) := by
          rw [a5, ← extract_data, show p1 + (p2 - p1) = p2 by omega]
        refine ⟨by simp [i0], by omega, a3, ?_, ?_⟩
        · rw [wordsB_snoc, i3, e1, show p2 - q = (p1 - q) + (p2 - p1) by omega, List.take_add, List.drop_drop, show q + (p1 - q) = p1 by omega]
        · intro w hw
          rcases List.mem_append.1 hw with hw | hw
          · exact i4 w hw
          · simp at hw; subst hw; exact a4
      · cases h
    · cases h
theorem rdWords_back {s : ByteArray} {q : Nat} : ∀ (l : List ByteArray) (r : List UInt8), s.data.toList.drop q = wordsB l ++ r → (∀ w ∈ l, w.size ≤ 4000) → rdWords s l.length q = some (l, q + (wordsB l).length) := by
  refine snoc_ind (fun r _ _ => rfl) fun l m ih r h hg => ?_
  have hm := hg m (by simp)
  rw [wordsB_snoc, List.append_assoc] at h
  have h1 := ih _ h (fun y hy => hg y (by simp [hy]))
  have hd : s.data.toList.drop (q + (wordsB l).length) = numBytes m.size ++ (m.data.toList ++ r) := by
    rw [← List.drop_drop, h, List.drop_left, textStr_list hm, List.append_assoc]
  have h2 := rdText_back hd hm
  rw [List.length_append, List.length_singleton, rdWords_more h1 h2, wordsB_snoc, List.length_append, textStr_list hm, List.length_append, size_list]
  simp only [Nat.add_assoc]

/-- A place's row and words. -/
def rdPlace (s : ByteArray) (q : Nat) : Option ((List Int × List ByteArray) × Nat) :=
  match rdNums s q with
  | some (xs, q1) => match rdAt s q1 with
    | some (m, q2) => if m ≤ 8 then (match rdWords s m q2 with
      | some (l, q3) => some ((xs, l), q3)
      | none => none) else none
    | none => none
  | none => none
theorem rdPlace_same {s : ByteArray} {q p : Nat} {x : List Int × List ByteArray} (h : rdPlace s q = some (x, p)) : q ≤ p ∧ p ≤ s.size ∧ placeB x = (s.data.toList.drop q).take (p - q) ∧ x.2.length ≤ 8 ∧ allGood x.1 ∧ ∀ w ∈ x.2, w.size ≤ 4000 := by
  unfold rdPlace at h
  split at h
  · rename_i xs q1 h1
    split at h
    · rename_i m q2 h2
      split at h
      · rename_i hm
        split at h
        · rename_i l q3 h3
          injection h with h
          injection h with h4 h5
          subst h4 h5
          obtain ⟨a1, a2, a3, a4, a5⟩ := rdNums_same h1
          obtain ⟨b1, b2, b3, b4, b5⟩ := rdAt_same h2
          obtain ⟨c1, c2, c3, c4, c5⟩ := rdWords_same h3 b3
          rw [Int.toNat_natCast] at a5 b5
          have hq1 : q ≤ q1 := by omega
          have hq2 : q1 ≤ q2 := by omega
          have e1 : rowBytes xs = (s.data.toList.drop q).take (q1 - q) := by
            rw [← rowStr_list a4, a5, ← extract_data, show q + (q1 - q) = q1 by omega]
          have e2 : numBytes m = (s.data.toList.drop q1).take (q2 - q1) := by
            have := numStr_list b4
            rw [Int.toNat_natCast] at this
            rw [← this, b5, ← extract_data, show q1 + (q2 - q1) = q2 by omega]
          refine ⟨by omega, c3, ?_, by show l.length ≤ 8; omega, a4, c5⟩
          unfold placeB
          simp only
          rw [c1, e1, e2, c4, show q3 - q = (q1 - q) + ((q2 - q1) + (q3 - q2)) by omega, List.take_add, List.drop_drop, show q + (q1 - q) = q1 by omega, List.take_add, List.drop_drop, show q1 + (q2 - q1) = q2 by omega]
        · cases h
      · cases h
    · cases h
  · cases h
theorem rdPlace_back {s : ByteArray} {q : Nat} {x : List Int × List ByteArray} {r : List UInt8} (h : s.data.toList.drop q = placeB x ++ r) (h1 : allGood x.1) (h2 : x.2.length ≤ 8) (h3 : ∀ w ∈ x.2, w.size ≤ 4000) :
    rdPlace s q = some (x, q + (placeB x).length) := by
  unfold placeB at h ⊢
  rw [List.append_assoc, List.append_assoc] at h
  have e1 := rdNums_back h h1
  have hd1 : s.data.toList.drop (q + (rowBytes x.1).length) = numBytes x.2.length ++ (wordsB x.2 ++ r) := by
    rw [← List.drop_drop, h, List.drop_left]
  have e2 := rdAt_back hd1 (by unfold maxNum; omega)
  have hd2 : s.data.toList.drop (q + (rowBytes x.1).length + (numBytes x.2.length).length) = wordsB x.2 ++ r := by
    rw [← List.drop_drop, hd1, List.drop_left]
  have e3 := rdWords_back x.2 r hd2 h3
  unfold rdPlace
  rw [e1]
  simp only []
  rw [e2]
  simp only []
  rw [if_pos h2, e3]
  simp only [List.length_append, Nat.add_assoc]

/-- So many places. -/
def rdPlaces (s : ByteArray) : Nat → Nat → Option (List (List Int × List ByteArray) × Nat)
  | 0, q => some ([], q)
  | k + 1, q => match rdPlaces s k q with
    | some (l, p) => match rdPlace s p with
      | some (t, p') => some (l ++ [t], p')
      | none => none
    | none => none
theorem rdPlaces_none {s : ByteArray} {k q : Nat} (h : rdPlaces s k q = none) : ∀ n, k ≤ n → rdPlaces s n q = none := by
  intro n hn
  induction hn with
  | refl => exact h
  | step _ ih => simp only [rdPlaces, ih]
theorem rdPlaces_more {s : ByteArray} {k q p p2 : Nat} {l : List (List Int × List ByteArray)} {t : List Int × List ByteArray} (h : rdPlaces s k q = some (l, p)) (h2 : rdPlace s p = some (t, p2)) : rdPlaces s (k + 1) q = some (l ++ [t], p2) := by
  simp only [rdPlaces, h, h2]
theorem rdPlaces_stop {s : ByteArray} {k q p n : Nat} {l : List (List Int × List ByteArray)} (h : rdPlaces s k q = some (l, p)) (h2 : rdPlace s p = none) (hk : k < n) : rdPlaces s n q = none :=
  rdPlaces_none (k := k + 1) (by simp only [rdPlaces, h, h2]) n (by omega)
theorem rdPlaces_same {s : ByteArray} : ∀ {k q : Nat} {l : List (List Int × List ByteArray)} {p : Nat}, rdPlaces s k q = some (l, p) → q ≤ s.size →
    l.length = k ∧ q ≤ p ∧ p ≤ s.size ∧ placesB l = (s.data.toList.drop q).take (p - q) ∧ ∀ x ∈ l, x.2.length ≤ 8 ∧ allGood x.1 ∧ ∀ w ∈ x.2, w.size ≤ 4000
  | 0, q, l, p, h, hq => by
    simp [rdPlaces] at h
    obtain ⟨rfl, rfl⟩ := h
    exact ⟨rfl, Nat.le_refl _, hq, by simp [placesB], fun x hx => by simp at hx⟩
  | k + 1, q, l, p, h, hq => by
    simp only [rdPlaces] at h
    split at h
    · rename_i l1 p1 h1
      split at h
      · rename_i t p2 h2
        injection h with h
        injection h with h3 h4
        subst h3 h4
        obtain ⟨i0, i1, i2, i3, i4⟩ := rdPlaces_same h1 hq
        obtain ⟨a1, a2, a3, a4, a5, a6⟩ := rdPlace_same h2
        refine ⟨by simp [i0], by omega, a2, ?_, ?_⟩
        · rw [placesB_snoc, i3, a3, show p2 - q = (p1 - q) + (p2 - p1) by omega, List.take_add, List.drop_drop, show q + (p1 - q) = p1 by omega]
        · intro x hx
          rcases List.mem_append.1 hx with hx | hx
          · exact i4 x hx
          · simp at hx; subst hx; exact ⟨a4, a5, a6⟩
      · cases h
    · cases h
theorem rdPlaces_back {s : ByteArray} {q : Nat} : ∀ (l : List (List Int × List ByteArray)) (r : List UInt8), s.data.toList.drop q = placesB l ++ r → (∀ x ∈ l, x.2.length ≤ 8 ∧ allGood x.1 ∧ ∀ w ∈ x.2, w.size ≤ 4000) →
    rdPlaces s l.length q = some (l, q + (placesB l).length) := by
  refine snoc_ind (fun r _ _ => rfl) fun l m ih r h hg => ?_
  obtain ⟨g1, g2, g3⟩ := hg m (by simp)
  rw [placesB_snoc, List.append_assoc] at h
  have h1 := ih _ h (fun y hy => hg y (by simp [hy]))
  have hd : s.data.toList.drop (q + (placesB l).length) = placeB m ++ r := by
    rw [← List.drop_drop, h, List.drop_left]
  have h2 := rdPlace_back hd g2 g1 g3
  rw [List.length_append, List.length_singleton, rdPlaces_more h1 h2, placesB_snoc, List.length_append, Nat.add_assoc]

/-- The edges of places that were read. -/
def esOf (ps : List (List Int × List ByteArray)) : List Edg := ps.zipIdx.flatMap fun p => p.1.1.map fun d => ⟨(p.2 : Int), d⟩
theorem esOf_nil : esOf [] = [] := rfl
theorem esOf_snoc (ps : List (List Int × List ByteArray)) (p : List Int × List ByteArray) : esOf (ps ++ [p]) = esOf ps ++ p.1.map fun d => ⟨(ps.length : Int), d⟩ := by
  unfold esOf
  rw [List.zipIdx_append, List.flatMap_append]
  simp
theorem toOf_row (xs : List Int) (m v : Nat) : toOf (xs.map fun d => ⟨(m : Int), d⟩) v = if m = v then xs else [] := by
  unfold toOf
  by_cases h : m = v
  · subst h
    rw [if_pos rfl, List.filter_eq_self.2 (fun e he => by
      simp only [List.mem_map] at he
      obtain ⟨d, _, rfl⟩ := he
      simp), List.map_map]
    exact List.map_id' xs
  · rw [if_neg h, List.filter_eq_nil_iff.2 (fun e he => by
      simp only [List.mem_map] at he
      obtain ⟨d, _, rfl⟩ := he
      simp
      omega)]
    rfl
theorem toOf_esOf : ∀ (ps : List (List Int × List ByteArray)) (v : Nat), toOf (esOf ps) v = (ps.getD v ([], [])).1 := by
  refine snoc_ind (fun v => by simp [esOf, toOf]) fun l p ih v => ?_
  rw [esOf_snoc, toOf_append, ih, toOf_row, List.getD_eq_getElem?_getD, List.getD_eq_getElem?_getD]
  rcases Nat.lt_trichotomy v l.length with h | h | h
  · rw [if_neg (by omega), List.append_nil, List.getElem?_append_left h]
  · subst h
    rw [if_pos rfl, List.getElem?_eq_none (Nat.le_refl _), List.getElem?_append_right (Nat.le_refl _), Nat.sub_self]
    simp
  · rw [if_neg (by omega), List.getElem?_eq_none (by omega), List.getElem?_eq_none (by rw [List.length_append, List.length_singleton]; omega)]
    rfl
theorem esOf_len : ∀ (ps : List (List Int × List ByteArray)), (∀ x ∈ ps, allGood x.1) → (esOf ps).length ≤ 4000 * ps.length := by
  refine snoc_ind (fun _ => by simp [esOf]) fun l p ih h => ?_
  have h1 := ih (fun x hx => h x (by simp [hx]))
  have h2 := (h p (by simp)).1
  rw [esOf_snoc, List.length_append, List.length_map, List.length_append, List.length_singleton]
  omega

/-- The graph of places that were read. -/
def grOf (ps : List (List Int × List ByteArray)) : Gr := ⟨(ps.length : Int), esOf ps, ps.map Prod.snd⟩
theorem pl_grOf (ps : List (List Int × List ByteArray)) : (List.range ps.length).map (pl (grOf ps)) = ps := by
  apply List.ext_getElem?
  intro i
  by_cases h : i < ps.length
  · rw [List.getElem?_map, List.getElem?_range h, List.getElem?_eq_getElem h]
    show some (pl (grOf ps) i) = _
    unfold pl grOf
    simp only
    rw [toOf_esOf, List.getD_eq_getElem?_getD, List.getD_eq_getElem?_getD, List.getElem?_map, List.getElem?_eq_getElem h]
    rfl
  · rw [List.getElem?_eq_none (by simp; omega), List.getElem?_eq_none (by omega)]
theorem imgB_grOf (ps : List (List Int × List ByteArray)) : imgB (grOf ps) = [119, 103] ++ (numBytes ps.length ++ placesB ps) := by
  unfold imgB bodyB
  have e1 : (grOf ps).n.toNat = ps.length := Int.toNat_natCast _
  have e2 : (grOf ps).ws.length = ps.length := by show (ps.map Prod.snd).length = _; rw [List.length_map]
  rw [e1, e2, pl_grOf]

theorem filter_split (k : Nat) : ∀ l : List Edg, l.Pairwise (fun a b => a.src ≤ b.src) → l.filter (fun e => decide (e.src < (k : Int))) ++ l.filter (fun e => e.src == (k : Int)) = l.filter (fun e => decide (e.src < ((k + 1 : Nat) : Int)))
  | [], _ => rfl
  | a :: l, h => by
    obtain ⟨h1, h2⟩ := List.pairwise_cons.1 h
    have ih := filter_split k l h2
    rcases Int.lt_trichotomy a.src k with hk | hk | hk
    · have c1 : decide (a.src < (k : Int)) = true := decide_eq_true hk
      have c2 : (a.src == (k : Int)) = false := by rw [beq_eq_false_iff_ne]; omega
      have c3 : decide (a.src < ((k + 1 : Nat) : Int)) = true := decide_eq_true (by omega)
      simp only [List.filter_cons, c1, c2, c3, if_true]
      rw [← ih]
      rfl
    · have c1 : decide (a.src < (k : Int)) = false := decide_eq_false (by omega)
      have c2 : (a.src == (k : Int)) = true := by rw [beq_iff_eq]; exact hk
      have c3 : decide (a.src < ((k + 1 : Nat) : Int)) = true := decide_eq_true (by omega)
      have hn : l.filter (fun e => decide (e.src < (k : Int))) = [] := List.filter_eq_nil_iff.2 (fun e he => by
        have := h1 e he
        simp
        omega)
      simp only [List.filter_cons, c1, c2, c3, if_true]
      rw [← ih, hn]
      rfl
    · have c1 : decide (a.src < (k : Int)) = false := decide_eq_false (by omega)
      have c2 : (a.src == (k : Int)) = false := by rw [beq_eq_false_iff_ne]; omega
      have c3 : decide (a.src < ((k + 1 : Nat) : Int)) = false := decide_eq_false (by omega)
      simp only [List.filter_cons, c1, c2, c3]
      exact ih
theorem lessE_trans (a b c : Edg) (h1 : lessE a b) (h2 : lessE b c) : lessE a c := by
  unfold lessE at *
  omega
theorem rise_src {l : List Edg} (h : riseE l) : l.Pairwise (fun a b => a.src ≤ b.src) :=
  (rises_pair lessE lessE_trans l h).imp (fun {a b} h => by unfold lessE at h; omega)
theorem map_dst (l : List Edg) (k : Nat) : (toOf l k).map (fun d => (⟨(k : Int), d⟩ : Edg)) = l.filter (fun e => e.src == (k : Int)) := by
  unfold toOf
  rw [List.map_map]
  have : ∀ m : List Edg, (∀ e ∈ m, e.src = k) → m.map ((fun d => (⟨(k : Int), d⟩ : Edg)) ∘ Edg.dst) = m := by
    intro m hm
    induction m with
    | nil => rfl
    | cons a m ih =>
      rw [List.map_cons, ih (fun e he => hm e (by simp [he]))]
      have := hm a (by simp)
      congr 1
      rw [Edg.eq_iff]
      exact ⟨this.symm, rfl⟩
  refine this _ (fun e he => ?_)
  have := (List.mem_filter.1 he).2
  simpa using this
theorem esOf_pl {g : Gr} (h : riseE g.es) : ∀ k : Nat, esOf ((List.range k).map (pl g)) = g.es.filter (fun e => decide (e.src < (k : Int)) && decide (0 ≤ e.src)) := by
  intro k
  induction k with
  | zero =>
    symm
    refine List.filter_eq_nil_iff.2 (fun e _ => ?_)
    simp
  | succ k ih =>
    rw [List.range_succ, List.map_append, List.map_singleton, esOf_snoc, ih, List.length_map, List.length_range]
    show _ ++ (toOf g.es k).map _ = _
    rw [map_dst]
    have hp := rise_src h
    have := filter_split k (g.es.filter (fun e => decide (0 ≤ e.src))) (hp.filter _)
    rw [List.filter_filter, List.filter_filter, List.filter_filter] at this
    rw [← this]
    congr 1
    refine List.filter_congr (fun e _ => ?_)
    by_cases hk : e.src = k
    · simp [hk]
    · have : (e.src == (k : Int)) = false := by rw [beq_eq_false_iff_ne]; exact hk
      rw [this]; rfl
theorem esOf_all {g : Gr} (h : isG g) : esOf ((List.range g.ws.length).map (pl g)) = g.es := by
  rw [esOf_pl h.2.1]
  refine List.filter_eq_self.2 (fun e he => ?_)
  obtain ⟨⟨h1, h2⟩, -⟩ := h.1.2.2.2.1 e he
  have := h.1.2.2.1
  simp
  omega
theorem ws_pl (g : Gr) : ((List.range g.ws.length).map (pl g)).map Prod.snd = g.ws := by
  apply List.ext_getElem?
  intro i
  rw [List.map_map, List.getElem?_map]
  by_cases h : i < g.ws.length
  · rw [List.getElem?_range h, List.getElem?_eq_getElem h]
    show some (g.ws.getD i []) = _
    rw [List.getD_eq_getElem?_getD, List.getElem?_eq_getElem h]
    rfl
  · rw [List.getElem?_eq_none (by simp; omega), List.getElem?_eq_none (by omega)]
    rfl
theorem grOf_pl {g : Gr} (h : isG g) : grOf ((List.range g.ws.length).map (pl g)) = g := by
  rw [Gr.eq_iff]
  refine ⟨?_, esOf_all h, ws_pl g⟩
  show (((List.range g.ws.length).map (pl g)).length : Int) = _
  rw [List.length_map, List.length_range]
  exact h.1.2.2.1
theorem pl_ok {g : Gr} (h : isG g) : ∀ x ∈ (List.range g.ws.length).map (pl g), x.2.length ≤ 8 ∧ allGood x.1 ∧ ∀ w ∈ x.2, w.size ≤ 4000 := by
  intro x hx
  simp only [List.mem_map, List.mem_range] at hx
  obtain ⟨v, hv, rfl⟩ := hx
  have hm : g.ws.getD v [] ∈ g.ws := by
    rw [List.getD_eq_getElem?_getD, List.getElem?_eq_getElem hv]
    exact List.getElem_mem hv
  obtain ⟨h1, h2⟩ := h.1.2.2.2.2 _ hm
  exact ⟨h1, toOf_good h.1 v, fun w hw => by have := (h2 w hw).1.2; omega⟩

/-- What is read behind the mark. -/
def rdG (t : ByteArray) : Option (Gr × Nat) :=
  match rdAt t 0 with
  | some (n, q) => if n ≤ 200 then (match rdPlaces t n q with
    | some (ps, p) => some (grOf ps, p)
    | none => none) else none
  | none => none
theorem rdG_same {t : ByteArray} {g : Gr} {p : Nat} (h : rdG t = some (g, p)) : p ≤ t.size ∧ imgB g = [119, 103] ++ t.data.toList.take p ∧ g.es.length ≤ 800000 ∧ g.ws.length ≤ 200 ∧ ∀ l ∈ g.ws, l.length ≤ 8 ∧ ∀ w ∈ l, w.size ≤ 4000 := by
  unfold rdG at h
  split at h
  · rename_i n q h1
    split at h
    · rename_i hn
      split at h
      · rename_i ps p1 h2
        injection h with h
        injection h with h3 h4
        subst h3 h4
        obtain ⟨b1, b2, b3, b4, b5⟩ := rdAt_same h1
        obtain ⟨c1, c2, c3, c4, c5⟩ := rdPlaces_same h2 b3
        have e2 : numBytes n = t.data.toList.take q := by
          have := numStr_list b4
          rw [Int.toNat_natCast] at this
          rw [← this, b5]
          have e := extract_data t 0 q
          rw [Nat.zero_add, List.drop_zero] at e
          exact e
        refine ⟨c3, ?_, ?_, ?_, ?_⟩
        · rw [imgB_grOf, c1, e2, c4, show p1 = q + (p1 - q) by omega, List.take_add, show q + (p1 - q) - q = p1 - q by omega]
        · have := esOf_len ps (fun x hx => (c5 x hx).2.1)
          show (esOf ps).length ≤ _
          omega
        · show (ps.map Prod.snd).length ≤ _
          rw [List.length_map]
          omega
        · intro l hl
          obtain ⟨x, hx, rfl⟩ := List.mem_map.1 hl
          exact ⟨(c5 x hx).1, (c5 x hx).2.2⟩
      · cases h
    · cases h
  · cases h
theorem rdG_back {t : ByteArray} {g : Gr} {r : List UInt8} (hg : isG g) (h : [119, 103] ++ t.data.toList = imgB g ++ r) : rdG t = some (g, t.size - r.length) := by
  unfold imgB at h
  rw [List.append_assoc, List.append_assoc] at h
  have h := List.append_cancel_left h
  have hn : g.n.toNat = g.ws.length := by have := hg.1.2.2.1; omega
  rw [hn] at h
  have hw : g.ws.length ≤ 200 := by have := hg.1.2.2.1; have := hg.1.1; omega
  have e1 := rdAt_back (p := 0) (by rw [List.drop_zero]; exact h) (by unfold maxNum; omega)
  have hd : t.data.toList.drop (0 + (numBytes g.ws.length).length) = placesB ((List.range g.ws.length).map (pl g)) ++ r := by
    rw [Nat.zero_add, h, List.drop_left]
    rfl
  have e2 := rdPlaces_back _ r hd (pl_ok hg)
  rw [List.length_map, List.length_range] at e2
  have hl := congrArg List.length h
  rw [size_list, List.length_append, List.length_append] at hl
  unfold rdG
  rw [show ((0 : Int)) = ((0 : Nat) : Int) from rfl, e1]
  simp only []
  rw [if_pos hw, e2]
  simp only []
  rw [grOf_pl hg]
  congr 2
  unfold bodyB at hl
  omega

def rest (s : ByteArray) : ByteArray := s.extract 2 s.size
def marked (s : ByteArray) : Prop := s.data.toList.take 2 = [119, 103]
instance (s : ByteArray) : Decidable (marked s) := by unfold marked; infer_instance
theorem marked_size {s : ByteArray} (h : marked s) : 2 ≤ s.size := by
  have := congrArg List.length h
  rw [List.length_take, size_list] at this
  simp at this
  omega
theorem rest_size {s : ByteArray} (h : marked s) : (rest s).size = s.size - 2 := by
  have h2 := marked_size h
  have e := extract_data s 2 (s.size - 2)
  rw [show 2 + (s.size - 2) = s.size by omega] at e
  have := congrArg List.length e
  rw [size_list, List.length_take, List.length_drop, size_list] at this
  unfold rest
  omega
theorem rest_list {s : ByteArray} (h : marked s) : (rest s).data.toList = s.data.toList.drop 2 := by
  have h2 := marked_size h
  have e := extract_data s 2 (s.size - 2)
  rw [show 2 + (s.size - 2) = s.size by omega] at e
  unfold rest
  rw [e, List.take_of_length_le (by rw [List.length_drop, size_list]; omega)]
theorem rest_all {s : ByteArray} (h : marked s) : [119, 103] ++ (rest s).data.toList = s.data.toList := by
  rw [rest_list h, ← h, List.take_append_drop]
/-- The graph whose image bytes are. -/
def parseO (s : ByteArray) : Option Gr :=
  if marked s then (match rdG (rest s) with
    | some (g, p) => if p = (rest s).size ∧ isG g then some g else none
    | none => none) else none
def noG : Gr := ⟨0, [], []⟩
def parseG (s : ByteArray) : Gr := (parseO s).getD noG
def parseE (s : ByteArray) : Int := if (parseO s).isSome then 0 else 30
theorem parse_none {s : ByteArray} (h : parseO s = none) : parseG s = noG ∧ parseE s = 30 := by unfold parseG parseE; rw [h]; exact ⟨rfl, rfl⟩
theorem parse_some {s : ByteArray} {g : Gr} (h : parseO s = some g) : parseG s = g ∧ parseE s = 0 := by unfold parseG parseE; rw [h]; exact ⟨rfl, rfl⟩
theorem parse_same {s : ByteArray} {g : Gr} (h : parseO s = some g) : isG g ∧ imgB g = s.data.toList := by
  unfold parseO at h
  split at h
  · rename_i hm
    split at h
    · rename_i g1 p h1
      split at h
      · rename_i hp
        injection h with h
        subst h
        obtain ⟨-, a2, -⟩ := rdG_same h1
        refine ⟨hp.2, ?_⟩
        rw [a2, hp.1, List.take_of_length_le (by rw [size_list]; exact Nat.le_refl _), rest_all hm]
      · cases h
    · cases h
  · cases h
theorem imgB_marked {g : Gr} {s : ByteArray} {r : List UInt8} (h : s.data.toList = imgB g ++ r) : marked s := by
  unfold marked
  rw [h]
  rfl
theorem parse_back {s : ByteArray} {g : Gr} (hg : isG g) (h : s.data.toList = imgB g) : parseO s = some g := by
  have hm : marked s := imgB_marked (g := g) (r := []) (by rw [List.append_nil]; exact h)
  have h1 := rdG_back (t := rest s) (r := []) hg (by rw [rest_all hm, h, List.append_nil])
  unfold parseO
  rw [if_pos hm, h1]
  simp only []
  rw [if_pos ⟨by simp, hg⟩]
theorem img_front {g h : Gr} {r : List UInt8} (hg : isG g) (hh : isG h) (e : imgB h = imgB g ++ r) : g = h := by
  have hm : marked ⟨(imgB h).toArray⟩ := imgB_marked (g := h) (r := []) (by simp)
  have h1 := rdG_back (t := rest ⟨(imgB h).toArray⟩) (r := []) hh (by rw [rest_all hm]; simp)
  have h2 := rdG_back (t := rest ⟨(imgB h).toArray⟩) (r := r) hg (by rw [rest_all hm]; simpa using e)
  rw [h1] at h2
  injection h2 with h2
  injection h2 with h2 _
  exact h2.symm
/-- The reference's way: it prints what it has read. -/
theorem parse_ref {s : ByteArray} {g : Gr} {p : Nat} (hm : marked s) (h : rdG (rest s) = some (g, p)) : parseO s = if printE g = 0 ∧ printS g = s then some g else none := by
  obtain ⟨a1, a2, -⟩ := rdG_same h
  unfold parseO
  rw [if_pos hm, h]
  simp only []
  by_cases hg : isG g
  · have e1 : printE g = 0 := by unfold printE; rw [if_pos hg]
    have e2 : printS g = ⟨(imgB g).toArray⟩ := by unfold printS; rw [if_pos hg]
    by_cases hp : p = (rest s).size
    · have e3 : printS g = s := by
        rw [e2]
        apply bytes_ext
        show imgB g = _
        rw [a2, hp, List.take_of_length_le (by rw [size_list]; exact Nat.le_refl _), rest_all hm]
      rw [if_pos ⟨hp, hg⟩, if_pos ⟨e1, e3⟩]
    · rw [if_neg (fun h => hp h.1), if_neg]
      rintro ⟨-, h3⟩
      rw [e2] at h3
      have h4 : imgB g = s.data.toList := by rw [← h3]
      rw [a2, ← rest_all hm] at h4
      have h5 := congrArg List.length (List.append_cancel_left h4)
      rw [List.length_take, size_list] at h5
      omega
  · rw [if_neg (fun h => hg h.2), if_neg]
    rintro ⟨h3, -⟩
    unfold printE at h3
    rw [if_neg hg] at h3
    omega

/-- What the reference reads, two bytes further on. -/
theorem rdAt_rest {s : ByteArray} (hm : marked s) (q : Nat) : rdAt s ((q + 2 : Nat) : Int) = (rdAt (rest s) (q : Int)).map fun x => (x.1, x.2 + 2) := by
  have h2 := marked_size hm
  have hl : s.data.toList.drop (q + 2) = (rest s).data.toList.drop q := by rw [rest_list hm, List.drop_drop, Nat.add_comm]
  have hz := rest_size hm
  unfold rdAt
  by_cases h : q ≤ (rest s).size
  · rw [if_pos ⟨by omega, by omega⟩, if_pos ⟨by omega, by omega⟩, Int.toNat_natCast, Int.toNat_natCast, hl]
    cases rdNum ((rest s).data.toList.drop q) with
    | none => rfl
    | some x => simp; omega
  · rw [if_neg (by omega), if_neg (by omega)]
    rfl
theorem rdText_rest {s : ByteArray} (hm : marked s) (q : Nat) : rdText s ((q + 2 : Nat) : Int) = (rdText (rest s) (q : Int)).map fun x => (x.1, x.2 + 2) := by
  have h2 := marked_size hm
  have hz := rest_size hm
  unfold rdText
  rw [rdAt_rest hm]
  cases h : rdAt (rest s) (q : Int) with
  | none => rfl
  | some x =>
    obtain ⟨n, p⟩ := x
    simp only [Option.map_some]
    by_cases hc : n ≤ 4000 ∧ p + n ≤ (rest s).size
    · rw [if_pos hc, if_pos ⟨hc.1, by omega⟩]
      simp only [Option.map_some]
      congr 2
      · apply bytes_ext
        rw [show p + 2 + n = (p + 2) + n from rfl, extract_data, extract_data, rest_list hm, List.drop_drop, Nat.add_comm 2 p]
      · omega
    · rw [if_neg hc, if_neg (fun h => hc ⟨h.1, by omega⟩)]
      rfl
theorem rdMany_rest {s : ByteArray} (hm : marked s) : ∀ k q : Nat, rdMany s k (q + 2) = (rdMany (rest s) k q).map fun x => (x.1, x.2 + 2)
  | 0, q => rfl
  | k + 1, q => by
    simp only [rdMany]
    rw [rdAt_rest hm]
    cases h : rdAt (rest s) (q : Int) with
    | none => rfl
    | some x =>
      obtain ⟨n, p⟩ := x
      simp only [Option.map_some]
      rw [rdMany_rest hm k p]
      cases rdMany (rest s) k p <;> rfl
theorem rdNums_rest {s : ByteArray} (hm : marked s) (q : Nat) : rdNums s ((q + 2 : Nat) : Int) = (rdNums (rest s) (q : Int)).map fun x => (x.1, x.2 + 2) := by
  unfold rdNums
  rw [rdAt_rest hm]
  cases h : rdAt (rest s) (q : Int) with
  | none => rfl
  | some x =>
    obtain ⟨n, p⟩ := x
    simp only [Option.map_some]
    by_cases hn : n ≤ 4000
    · rw [if_pos hn, if_pos hn, rdMany_rest hm]
    · rw [if_neg hn, if_neg hn]; rfl
theorem rdWords_rest {s : ByteArray} (hm : marked s) : ∀ k q : Nat, rdWords s k (q + 2) = (rdWords (rest s) k q).map fun x => (x.1, x.2 + 2)
  | 0, q => rfl
  | k + 1, q => by
    simp only [rdWords]
    rw [rdWords_rest hm k q]
    cases h : rdWords (rest s) k q with
    | none => rfl
    | some x =>
      obtain ⟨n, p⟩ := x
      simp only [Option.map_some]
      rw [rdText_rest hm]
      cases rdText (rest s) (p : Int) <;> rfl
theorem rdPlace_rest {s : ByteArray} (hm : marked s) (q : Nat) : rdPlace s (q + 2) = (rdPlace (rest s) q).map fun x => (x.1, x.2 + 2) := by
  unfold rdPlace
  rw [rdNums_rest hm]
  cases h : rdNums (rest s) (q : Int) with
  | none => rfl
  | some x =>
    obtain ⟨n, p⟩ := x
    simp only [Option.map_some]
    rw [rdAt_rest hm]
    cases h : rdAt (rest s) (p : Int) with
    | none => rfl
    | some x =>
      obtain ⟨m, p2⟩ := x
      simp only [Option.map_some]
      by_cases h8 : m ≤ 8
      · rw [if_pos h8, if_pos h8, rdWords_rest hm]
        cases rdWords (rest s) m p2 <;> rfl
      · rw [if_neg h8, if_neg h8]; rfl
end Go.Proofs.YtmnjlhifjjainaaGreat
