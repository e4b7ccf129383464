/-
  Plain laws of chapter 16: messages combined. No program in sight.
-/
import Derived.Test.YtgphijfcmegdaaaMem
namespace Go.Proofs.Ytgphijfcmegdaaa
open Go.RowKit

/-- A message's key stands ahead of another one's. -/
def kless (a b : Msg) : Prop := a.slot < b.slot ∨ a.slot = b.slot ∧ (a.dir < b.dir ∨ a.dir = b.dir ∧ a.v < b.v)
instance (a b : Msg) : Decidable (kless a b) := by unfold kless; infer_instance
/-- Two messages have the same key. -/
def kEq (a b : Msg) : Prop := a.slot = b.slot ∧ a.dir = b.dir ∧ a.v = b.v
instance (a b : Msg) : Decidable (kEq a b) := by unfold kEq; infer_instance

theorem kless_irrefl (a : Msg) : ¬ kless a a := by unfold kless; omega
theorem kless_trans {a b c : Msg} (h : kless a b) (k : kless b c) : kless a c := by unfold kless at *; omega
theorem kless_tri (a b : Msg) : kless a b ∨ kEq a b ∨ kless b a := by unfold kless kEq; omega
theorem kless_ne {a b : Msg} (h : kless a b) : ¬ kEq a b := by unfold kless at h; unfold kEq; omega
theorem kless_asymm {a b : Msg} (h : kless a b) : ¬ kless b a := by unfold kless at *; omega
theorem kEq_refl (a : Msg) : kEq a a := ⟨rfl, rfl, rfl⟩
theorem kEq_symm {a b : Msg} (h : kEq a b) : kEq b a := ⟨h.1.symm, h.2.1.symm, h.2.2.symm⟩
theorem kEq_trans {a b c : Msg} (h : kEq a b) (k : kEq b c) : kEq a c := ⟨h.1.trans k.1, h.2.1.trans k.2.1, h.2.2.trans k.2.2⟩
theorem kless_of_eq {a b c : Msg} (h : kEq a b) (k : kless b c) : kless a c := by unfold kless kEq at *; omega
theorem kless_of_eq' {a b c : Msg} (h : kless a b) (k : kEq b c) : kless a c := by unfold kless kEq at *; omega
theorem kEq_ext {a b : Msg} (h : kEq a b) (hd : a.d = b.d) : a = b := (Msg.eq_iff a b).2 ⟨h.1, h.2.1, h.2.2, hd⟩

/-- Rows whose keys rise, with the same things in them, are the same. -/
theorem rise_ext : ∀ {o o' : List Msg}, o.Pairwise kless → o'.Pairwise kless → (∀ m, m ∈ o ↔ m ∈ o') → o = o'
  | [], [], _, _, _ => rfl
  | [], b :: o', _, _, h => absurd ((h b).2 (by simp)) (by simp)
  | a :: o, [], _, _, h => absurd ((h a).1 (by simp)) (by simp)
  | a :: o, b :: o', h1, h2, h => by
    rw [List.pairwise_cons] at h1 h2
    have hab : a = b := by
      rcases List.mem_cons.1 ((h a).1 (by simp)) with e | ha
      · exact e
      · rcases List.mem_cons.1 ((h b).2 (by simp)) with e | hb
        · exact e.symm
        · exact absurd (h1.1 b hb) (kless_asymm (h2.1 a ha))
    subst hab
    congr 1
    refine rise_ext h1.2 h2.2 fun m => ⟨fun hm => ?_, fun hm => ?_⟩
    · rcases List.mem_cons.1 ((h m).1 (by simp [hm])) with rfl | hm'
      · exact absurd (h1.1 _ hm) (kless_irrefl _)
      · exact hm'
    · rcases List.mem_cons.1 ((h m).2 (by simp [hm])) with rfl | hm'
      · exact absurd (h2.1 _ hm) (kless_irrefl _)
      · exact hm'

/-- A row has just the nearest message of each key. -/
def Comb (l o : List Msg) : Prop := o.Pairwise kless ∧ ∀ m, m ∈ o ↔ m ∈ l ∧ ∀ m' ∈ l, kEq m' m → m.d ≤ m'.d

theorem Comb.one {l o o' : List Msg} (h : Comb l o) (h' : Comb l o') : o = o' :=
  rise_ext h.1 h'.1 fun m => by rw [h.2, h'.2]

theorem least_is (x : Msg) : ∀ l : List Msg, x ∈ l → ∃ y ∈ l, kEq y x ∧ ∀ m' ∈ l, kEq m' x → y.d ≤ m'.d
  | [], h => by simp at h
  | a :: l, h => by
    by_cases hl : ∃ z ∈ l, kEq z x
    · obtain ⟨z, hz, hzx⟩ := hl
      obtain ⟨y, hy, hyx, hmin⟩ := least_is z l hz
      by_cases ha : kEq a x ∧ a.d < y.d
      · refine ⟨a, by simp, ha.1, fun m' hm' hk => ?_⟩
        rcases List.mem_cons.1 hm' with rfl | hm'
        · exact Int.le_refl _
        · have := hmin m' hm' (kEq_trans hk (kEq_symm hzx)); omega
      · refine ⟨y, by simp [hy], kEq_trans hyx hzx, fun m' hm' hk => ?_⟩
        rcases List.mem_cons.1 hm' with rfl | hm'
        · have : ¬ m'.d < y.d := fun e => ha ⟨hk, e⟩
          omega
        · exact hmin m' hm' (kEq_trans hk (kEq_symm hzx))
    · have hx : x = a := by
        rcases List.mem_cons.1 h with e | h
        · exact e
        · exact absurd ⟨x, h, kEq_refl x⟩ hl
      subst hx
      refine ⟨x, by simp, kEq_refl x, fun m' hm' hk => ?_⟩
      rcases List.mem_cons.1 hm' with rfl | hm'
      · exact Int.le_refl _
      · exact absurd ⟨m', hm', hk⟩ hl

theorem Comb.has {l o : List Msg} (h : Comb l o) {x : Msg} (hx : x ∈ l) : ∃ y ∈ o, kEq y x ∧ ∀ m' ∈ l, kEq m' x → y.d ≤ m'.d := by
  obtain ⟨y, hy, hyx, hmin⟩ := least_is x l hx
  exact ⟨y, (h.2 y).2 ⟨hy, fun m' hm' hk => hmin m' hm' (kEq_trans hk hyx)⟩, hyx, hmin⟩

/-- A message, in its place; of one key the lesser number. -/
def putM : List Msg → Msg → List Msg
  | [], x => [x]
  | y :: ys, x => if kless y x then y :: putM ys x else if kEq y x then { x with d := min x.d y.d } :: ys else x :: y :: ys

theorem putM_past : ∀ {pre rest : List Msg} {x : Msg}, (∀ y ∈ pre, kless y x) → putM (pre ++ rest) x = pre ++ putM rest x
  | [], _, _, _ => rfl
  | y :: pre, rest, x, h => by
    simp only [List.cons_append, putM]
    rw [if_pos (h y (by simp)), putM_past fun z hz => h z (by simp [hz])]

theorem putM_key {o : List Msg} {x m : Msg} (hm : m ∈ putM o x) : m ∈ o ∨ kEq m x := by
  induction o with
  | nil => simp [putM] at hm; subst hm; exact .inr (kEq_refl _)
  | cons y ys ih =>
    simp only [putM] at hm
    split at hm
    · rcases List.mem_cons.1 hm with rfl | hm
      · exact .inl (by simp)
      · rcases ih hm with h | h
        · exact .inl (by simp [h])
        · exact .inr h
    · split at hm
      · rcases List.mem_cons.1 hm with rfl | hm
        · exact .inr ⟨rfl, rfl, rfl⟩
        · exact .inl (by simp [hm])
      · rcases List.mem_cons.1 hm with rfl | hm
        · exact .inr (kEq_refl _)
        · exact .inl hm

theorem putM_rise {o : List Msg} {x : Msg} (h : o.Pairwise kless) : (putM o x).Pairwise kless := by
  induction o with
  | nil => simp [putM]
  | cons y ys ih =>
    rw [List.pairwise_cons] at h
    simp only [putM]
    split
    · rename_i hlt
      rw [List.pairwise_cons]
      refine ⟨fun m hm => ?_, ih h.2⟩
      rcases putM_key hm with h1 | h1
      · exact h.1 m h1
      · exact kless_of_eq' hlt (kEq_symm h1)
    · rename_i hnl
      split
      · rename_i he
        rw [List.pairwise_cons]
        refine ⟨fun m hm => kless_of_eq (b := y) (kEq_symm he) (h.1 m hm), h.2⟩
      · rename_i hne
        have hxy : kless x y := by
          rcases kless_tri y x with h1 | h1 | h1
          · exact absurd h1 hnl
          · exact absurd h1 hne
          · exact h1
        rw [List.pairwise_cons, List.pairwise_cons]
        refine ⟨fun m hm => ?_, h⟩
        rcases List.mem_cons.1 hm with rfl | hm
        · exact hxy
        · exact kless_trans hxy (h.1 m hm)

/-- What is in it: what was there under other keys, and one of x's key. -/
theorem putM_mem {o : List Msg} {x : Msg} (h : o.Pairwise kless) (m : Msg) :
    m ∈ putM o x ↔ (m ∈ o ∧ ¬ kEq m x) ∨ (kEq m x ∧ ((∃ y ∈ o, kEq y x ∧ m.d = min x.d y.d) ∨ ((∀ y ∈ o, ¬ kEq y x) ∧ m.d = x.d))) := by
  induction o with
  | nil =>
    simp only [putM, List.mem_cons, List.not_mem_nil, or_false, false_and, false_or]
    constructor
    · rintro rfl; exact ⟨kEq_refl _, .inr ⟨fun y hy => absurd hy (by simp), rfl⟩⟩
    · rintro ⟨h1, h2⟩
      rcases h2 with ⟨y, hy⟩ | ⟨_, h2⟩
      · exact False.elim hy
      · exact kEq_ext h1 h2
  | cons y ys ih =>
    rw [List.pairwise_cons] at h
    simp only [putM]
    split
    · rename_i hlt
      have hne : ¬ kEq y x := kless_ne hlt
      rw [List.mem_cons, ih h.2]
      constructor
      · rintro (rfl | ⟨h1, h2⟩ | ⟨h1, h2⟩)
        · exact .inl ⟨by simp, hne⟩
        · exact .inl ⟨by simp [h1], h2⟩
        · refine .inr ⟨h1, ?_⟩
          rcases h2 with ⟨z, hz, hzx⟩ | ⟨h2, h3⟩
          · exact .inl ⟨z, by simp [hz], hzx⟩
          · refine .inr ⟨fun z hz => ?_, h3⟩
            rcases List.mem_cons.1 hz with rfl | hz
            · exact hne
            · exact h2 z hz
      · rintro (⟨h1, h2⟩ | ⟨h1, h2⟩)
        · rcases List.mem_cons.1 h1 with rfl | h1
          · exact .inl rfl
          · exact .inr (.inl ⟨h1, h2⟩)
        · refine .inr (.inr ⟨h1, ?_⟩)
          rcases h2 with ⟨z, hz, hzx⟩ | ⟨h2, h3⟩
          · rcases List.mem_cons.1 hz with rfl | hz
            · exact absurd hzx.1 hne
            · exact .inl ⟨z, hz, hzx⟩
          · exact .inr ⟨fun z hz => h2 z (by simp [hz]), h3⟩
    · rename_i hnl
      have hout : ∀ {z : Msg}, kless x z ∨ kEq x y → z ∈ ys → ¬ kEq z x := fun {z} hz hin e => by
        have h1 := h.1 z hin
        rcases hz with hz | hz
        · exact kless_ne hz (kEq_symm e)
        · exact kless_ne h1 (kEq_trans (kEq_symm hz) (kEq_symm e))
      split
      · rename_i he
        rw [List.mem_cons]
        constructor
        · rintro (rfl | h1)
          · exact .inr ⟨⟨rfl, rfl, rfl⟩, .inl ⟨y, by simp, he, rfl⟩⟩
          · exact .inl ⟨by simp [h1], hout (.inr (kEq_symm he)) h1⟩
        · rintro (⟨h1, h2⟩ | ⟨h1, h2⟩)
          · rcases List.mem_cons.1 h1 with rfl | h1
            · exact absurd he h2
            · exact .inr h1
          · refine .inl (kEq_ext ⟨h1.1, h1.2.1, h1.2.2⟩ ?_)
            rcases h2 with ⟨z, hz, hzx, hd⟩ | ⟨h2, h3⟩
            · rcases List.mem_cons.1 hz with rfl | hz
              · exact hd
              · exact absurd hzx (hout (.inr (kEq_symm he)) hz)
            · exact absurd he (h2 y (by simp))
      · rename_i hne
        have hxy : kless x y := by
          rcases kless_tri y x with h1 | h1 | h1
          · exact absurd h1 hnl
          · exact absurd h1 hne
          · exact h1
        have hall : ∀ z ∈ y :: ys, ¬ kEq z x := fun z hz => by
          rcases List.mem_cons.1 hz with rfl | hz
          · exact hne
          · exact hout (.inl (kless_trans hxy (h.1 z hz))) hz
        rw [List.mem_cons]
        constructor
        · rintro (rfl | h1)
          · exact .inr ⟨kEq_refl _, .inr ⟨hall, rfl⟩⟩
          · exact .inl ⟨h1, hall m h1⟩
        · rintro (⟨h1, h2⟩ | ⟨h1, h2⟩)
          · exact .inr h1
          · refine .inl (kEq_ext h1 ?_)
            rcases h2 with ⟨z, hz, hzx, hd⟩ | ⟨h2, h3⟩
            · exact absurd hzx (hall z hz)
            · exact h3

theorem Comb.put {l o : List Msg} {x : Msg} (h : Comb l o) : Comb (l ++ [x]) (putM o x) := by
  refine ⟨putM_rise h.1, fun m => ?_⟩
  rw [putM_mem h.1]
  constructor
  · rintro (⟨h1, h2⟩ | ⟨h1, h2⟩)
    · obtain ⟨h3, h4⟩ := (h.2 m).1 h1
      refine ⟨by simp [h3], fun m' hm' hk => ?_⟩
      rcases List.mem_append.1 hm' with hm' | hm'
      · exact h4 m' hm' hk
      · simp at hm'; subst hm'; exact absurd (kEq_symm hk) h2
    · rcases h2 with ⟨y, hy, hyx, hd⟩ | ⟨h2, h3⟩
      · obtain ⟨hyl, hymin⟩ := (h.2 y).1 hy
        refine ⟨?_, fun m' hm' hk => ?_⟩
        · rcases Int.le_total x.d y.d with hle | hle
          · have : m = x := kEq_ext h1 (by omega)
            simp [this]
          · have : m = y := kEq_ext (kEq_trans h1 (kEq_symm hyx)) (by omega)
            simp [this, hyl]
        · rcases List.mem_append.1 hm' with hm' | hm'
          · have := hymin m' hm' (kEq_trans (kEq_trans hk h1) (kEq_symm hyx)); omega
          · simp at hm'; subst hm'; omega
      · have : m = x := kEq_ext h1 h3
        subst this
        refine ⟨by simp, fun m' hm' hk => ?_⟩
        rcases List.mem_append.1 hm' with hm' | hm'
        · obtain ⟨y, hy, hyx, _⟩ := h.has hm'
          exact absurd (kEq_trans hyx hk) (h2 y hy)
        · simp at hm'; subst hm'; exact Int.le_refl _
  · rintro ⟨h1, h2⟩
    by_cases hk : kEq m x
    · refine .inr ⟨hk, ?_⟩
      by_cases hex : ∃ y ∈ o, kEq y x
      · obtain ⟨y, hy, hyx⟩ := hex
        refine .inl ⟨y, hy, hyx, ?_⟩
        obtain ⟨hyl, hymin⟩ := (h.2 y).1 hy
        have a1 := h2 x (by simp) (kEq_symm hk)
        have a2 := h2 y (by simp [hyl]) (kEq_trans hyx (kEq_symm hk))
        rcases List.mem_append.1 h1 with h1 | h1
        · have := hymin m h1 (kEq_trans hk (kEq_symm hyx)); omega
        · simp at h1; subst h1; omega
      · refine .inr ⟨fun y hy e => hex ⟨y, hy, e⟩, ?_⟩
        rcases List.mem_append.1 h1 with h1 | h1
        · obtain ⟨y, hy, hyx, _⟩ := h.has h1
          exact absurd ⟨y, hy, kEq_trans hyx hk⟩ hex
        · simp at h1; subst h1; rfl
    · refine .inl ⟨(h.2 m).2 ⟨?_, fun m' hm' hk' => h2 m' (by simp [hm']) hk'⟩, hk⟩
      rcases List.mem_append.1 h1 with h1 | h1
      · exact h1
      · simp at h1; subst h1; exact absurd (kEq_refl _) hk

/-- Messages combined. -/
def combine (l : List Msg) : List Msg := l.foldl putM []

theorem combine_snoc (l : List Msg) (x : Msg) : combine (l ++ [x]) = putM (combine l) x := by simp [combine]

theorem combine_comb (l : List Msg) : Comb l (combine l) := by
  have key : ∀ (k : Nat) (l : List Msg), l.length = k → Comb l (combine l) := by
    intro k
    induction k with
    | zero =>
      intro l h
      have : l = [] := List.eq_nil_of_length_eq_zero h
      subst this
      exact ⟨List.Pairwise.nil, fun m => by simp [combine]⟩
    | succ k ih =>
      intro l h
      have hne : l ≠ [] := fun e => by subst e; simp at h
      rw [← List.dropLast_concat_getLast hne]
      rw [combine_snoc]
      exact (ih _ (by simp [h])).put
  exact key _ l rfl

theorem comb_eq {l o : List Msg} (h : Comb l o) : o = combine l := h.one (combine_comb l)

/-- Only what is there, and how near, matters. -/
theorem Comb.of_same {l l' o : List Msg} (h : Comb l o) (hs : ∀ m, m ∈ l ↔ m ∈ l') : Comb l' o :=
  ⟨h.1, fun m => by rw [h.2, hs]; exact ⟨fun ⟨a, b⟩ => ⟨a, fun m' hm' => b m' ((hs m').2 hm')⟩, fun ⟨a, b⟩ => ⟨a, fun m' hm' => b m' ((hs m').1 hm')⟩⟩⟩

theorem combine_same {l l' : List Msg} (hs : ∀ m, m ∈ l ↔ m ∈ l') : combine l = combine l' := (comb_eq ((combine_comb l).of_same hs))

theorem mem_combine {l : List Msg} {m : Msg} (h : m ∈ combine l) : m ∈ l := (((combine_comb l).2 m).1 h).1

/-- Combined by parts, and then all, is as all at once. -/
theorem combine_parts (l l' : List Msg) : combine (combine l ++ combine l') = combine (l ++ l') := by
  apply Eq.symm
  apply comb_eq
  refine ⟨(combine_comb _).1, fun m => ?_⟩
  rw [(combine_comb (l ++ l')).2]
  have sub : ∀ x, x ∈ combine l ++ combine l' → x ∈ l ++ l' := fun x hx => by
    rcases List.mem_append.1 hx with h | h
    · exact List.mem_append.2 (.inl (mem_combine h))
    · exact List.mem_append.2 (.inr (mem_combine h))
  have low : ∀ x, x ∈ l ++ l' → ∃ y ∈ combine l ++ combine l', kEq y x ∧ y.d ≤ x.d := fun x hx => by
    rcases List.mem_append.1 hx with h | h
    · obtain ⟨y, hy, hk, hm⟩ := (combine_comb l).has h
      exact ⟨y, List.mem_append.2 (.inl hy), hk, hm x h (kEq_refl x)⟩
    · obtain ⟨y, hy, hk, hm⟩ := (combine_comb l').has h
      exact ⟨y, List.mem_append.2 (.inr hy), hk, hm x h (kEq_refl x)⟩
  constructor
  · rintro ⟨h1, h2⟩
    refine ⟨?_, fun m' hm' hk => h2 m' (sub m' hm') hk⟩
    obtain ⟨y, hy, hk, hd⟩ := low m h1
    have := h2 y (sub y hy) hk
    have e : y = m := kEq_ext hk (by omega)
    rw [← e]; exact hy
  · rintro ⟨h1, h2⟩
    refine ⟨sub m h1, fun m' hm' hk => ?_⟩
    obtain ⟨y, hy, hk', hd⟩ := low m' hm'
    have := h2 y hy (kEq_trans hk' hk)
    omega

theorem combine_twice (l : List Msg) : combine (combine l) = combine l := by
  have := combine_parts l []
  simpa [combine] using this
end Go.Proofs.Ytgphijfcmegdaaa
