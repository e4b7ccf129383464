/-
  A map of messages, as it is read: plain laws.
-/
import Derived.Test.YtgphijfcmegdaaaMailKey
namespace Go.Proofs.Ytgphijfcmegdaaa
open Go.RowKit
open Go.Maps (Keyed IsMap)

theorem kc_eq {a b : Msg} : Value.agg (kc a) = .agg (kc b) ↔ kEq a b := by
  unfold kc kEq
  constructor
  · intro h
    injection h with h
    injection h with h
    simp at h
    exact h
  · rintro ⟨h1, h2, h3⟩
    rw [h1, h2, h3]

theorem key_same {a b : Msg} {l l' : Lit} (ha : keyOf Try.prog 29 (.agg (kc a)) = some l) (hb : keyOf Try.prog 29 (.agg (kc b)) = some l') : l = l' ↔ kEq a b := by
  constructor
  · rintro rfl
    exact kc_eq.1 (keyed.inj ha hb)
  · intro h
    rw [kc_eq.2 h, hb] at ha
    exact (Option.some.inj ha).symm

/-- The map reads as just the messages M. -/
def MapHas (D : DataW Msg) (M : List Msg) : Prop :=
  IsMap D ∧ ∀ (m : Msg) (l : Lit), keyOf Try.prog 29 (.agg (kc m)) = some l → (Maps.has D l = true ↔ ∃ y ∈ M, kEq y m) ∧ ∀ y ∈ M, kEq y m → ∀ z, D.atKey l z = .held y

theorem MapHas.nil : MapHas (.map []) [] := ⟨Maps.isMap_empty, fun m l _ => ⟨by simp [Maps.has], fun y hy => by simp at hy⟩⟩

variable {D : DataW Msg} {M M' : List Msg} {x y : Msg} {l : Lit}

theorem MapHas.same (h : MapHas D M) (hs : ∀ y, y ∈ M ↔ y ∈ M') : MapHas D M' :=
  ⟨h.1, fun m l hl => ⟨(h.2 m l hl).1.trans ⟨fun ⟨y, a, b⟩ => ⟨y, (hs y).1 a, b⟩, fun ⟨y, a, b⟩ => ⟨y, (hs y).2 a, b⟩⟩, fun y hy => (h.2 m l hl).2 y ((hs y).2 hy)⟩⟩

theorem rise_one : ∀ {o : List Msg}, o.Pairwise kless → ∀ {a b : Msg}, a ∈ o → b ∈ o → kEq a b → a = b
  | [], _, _, _, ha, _, _ => by simp at ha
  | c :: o, h, a, b, ha, hb, hk => by
    rw [List.pairwise_cons] at h
    rcases List.mem_cons.1 ha with e1 | h1
    · rcases List.mem_cons.1 hb with e2 | h2
      · rw [e1, e2]
      · rw [e1] at hk; exact absurd hk (kless_ne (h.1 b h2))
    · rcases List.mem_cons.1 hb with e2 | h2
      · rw [e2] at hk; exact absurd (kEq_symm hk) (kless_ne (h.1 a h1))
      · exact rise_one h.2 h1 h2 hk

theorem MapHas.put (h : MapHas D M) (hr : M.Pairwise kless) (hl : keyOf Try.prog 29 (.agg (kc x)) = some l) (hx : ∀ y ∈ M, kEq y x → x.d ≤ y.d) : MapHas (D.put l (.held x)) (putM M x) := by
  have hin : x ∈ putM M x := by
    rw [putM_mem hr]
    refine .inr ⟨kEq_refl _, ?_⟩
    by_cases hex : ∃ y ∈ M, kEq y x
    · obtain ⟨y, hy, hk⟩ := hex
      have := hx y hy hk
      exact .inl ⟨y, hy, hk, by omega⟩
    · exact .inr ⟨fun y hy hk => hex ⟨y, hy, hk⟩, rfl⟩
  refine ⟨h.1.put _ _, fun m lm hm => ?_⟩
  by_cases hk : kEq x m
  · obtain rfl : l = lm := (key_same hl hm).2 hk
    refine ⟨⟨fun _ => ⟨x, hin, hk⟩, fun _ => Maps.has_put_same h.1 (keyed.key hl) _⟩, fun y hy hym z => ?_⟩
    rw [Maps.atKey_put_same h.1 (keyed.key hl)]
    rw [rise_one (putM_rise hr) hin hy (kEq_trans hk (kEq_symm hym))]
  · have hne : lm ≠ l := fun e => hk ((key_same hl hm).1 e.symm)
    rw [Maps.has_put_other hne, (h.2 m lm hm).1]
    have hmem : ∀ y, kEq y m → (y ∈ putM M x ↔ y ∈ M) := fun y hy => by
      have hyx : ¬ kEq y x := fun e => hk (kEq_trans (kEq_symm e) hy)
      rw [putM_mem hr]
      constructor
      · rintro (h1 | h1)
        · exact h1.1
        · exact absurd h1.1 hyx
      · intro h1; exact .inl ⟨h1, hyx⟩
    refine ⟨⟨fun ⟨y, a, b⟩ => ⟨y, (hmem y b).2 a, b⟩, fun ⟨y, a, b⟩ => ⟨y, (hmem y b).1 a, b⟩⟩, fun y hy hym z => ?_⟩
    rw [Maps.atKey_put_other hne]
    exact (h.2 m lm hm).2 y ((hmem y hym).1 hy) hym z

theorem MapHas.stay (h : MapHas D M) (hr : M.Pairwise kless) (hy : y ∈ M) (hk : kEq y x) (hd : y.d ≤ x.d) : MapHas D (putM M x) := by
  refine h.same fun z => ?_
  rw [putM_mem hr]
  constructor
  · intro hz
    by_cases hzx : kEq z x
    · have : z = y := rise_one hr hz hy (kEq_trans hzx (kEq_symm hk))
      subst this
      exact .inr ⟨hzx, .inl ⟨z, hz, hzx, by omega⟩⟩
    · exact .inl ⟨hz, hzx⟩
  · rintro (h1 | ⟨h1, h2⟩)
    · exact h1.1
    · rcases h2 with ⟨y', hy', hk', hd'⟩ | ⟨h2, -⟩
      · have e1 : y' = y := rise_one hr hy' hy (kEq_trans hk' (kEq_symm hk))
        subst e1
        have : z = y' := kEq_ext (kEq_trans h1 (kEq_symm hk)) (by omega)
        rw [this]; exact hy
      · exact absurd hk (h2 y hy)

/-- What has been met of a range over the map: o; what is left tells the rest. -/
structure Met (M o : List Msg) (left : Lit → Bool) : Prop where
  sub : ∀ y ∈ o, y ∈ M
  nodup : o.Nodup
  rest : ∀ y ∈ M, ∀ l, keyOf Try.prog 29 (.agg (kc y)) = some l → (left l = true ↔ y ∉ o)

theorem Met.start (h : MapHas D M) : Met M [] (Maps.has D) :=
  ⟨fun y hy => by simp at hy, List.nodup_nil, fun y hy l hl => by rw [(h.2 y l hl).1]; simp; exact ⟨y, hy, kEq_refl y⟩⟩

theorem Met.step {o : List Msg} {left : Lit → Bool} (h : Met M o left) (hM : MapHas D M) (hr : M.Pairwise kless) {k c : Msg} (hk : keyOf Try.prog 29 (.agg (kc k)) = some l) (hl : left l = true)
    (hat : ∀ z, D.atKey l z = .held c) : kEq c k ∧ c ∈ M ∧ Met M (o ++ [c]) (fun z => left z && !z.sameKey l) := by
  have hh : Maps.has D l = true := Maps.has_true_of_atKey hat
  obtain ⟨y, hy, hyk⟩ := ((hM.2 k l hk).1).1 hh
  have e1 := (hM.2 k l hk).2 y hy hyk .nil
  rw [hat] at e1
  injection e1 with e1
  subst e1
  have hc : keyOf Try.prog 29 (.agg (kc c)) = some l := by rw [kc_eq.2 hyk]; exact hk
  have hco : c ∉ o := (h.rest c hy l hc).1 hl
  refine ⟨hyk, hy, fun z hz => ?_, ?_, fun z hz lz hlz => ?_⟩
  · rcases List.mem_append.1 hz with hz | hz
    · exact h.sub z hz
    · simp at hz; subst hz; exact hy
  · rw [List.nodup_append]
    refine ⟨h.nodup, by simp, fun a ha b hb e => ?_⟩
    simp at hb
    subst hb
    subst e
    exact hco ha
  · simp only [Bool.and_eq_true, Bool.not_eq_true', List.mem_append, List.mem_cons, List.not_mem_nil, or_false, not_or]
    rw [h.rest z hz lz hlz]
    refine and_congr_right fun _ => ?_
    constructor
    · intro h1 e
      subst e
      have : lz = l := (key_same hlz hc).2 (kEq_refl _)
      subst this
      rw [WideAt.sameKey_self (keyed.key hc)] at h1
      cases h1
    · intro h1
      exact Maps.sameKey_ne fun e => h1 (rise_one hr hz hy ((key_same hlz hc).1 e))

theorem Met.all {o : List Msg} {left : Lit → Bool} (h : Met M o left) (hf : ∀ y ∈ M, y.fits) (hl : ∀ l, left l = false) : ∀ y, y ∈ o ↔ y ∈ M := fun y =>
  ⟨h.sub y, fun hy => by
    obtain ⟨l, hk⟩ := key_reads y (hf y hy)
    rcases Classical.em (y ∈ o) with h1 | h1
    · exact h1
    · have := (h.rest y hy l hk).2 h1
      rw [hl l] at this
      cases this⟩

/-- Sorted, they are the ones that rise. -/
theorem sorted_is {o d : List Msg} (hr : M.Pairwise kless) (ho : ∀ y, y ∈ o ↔ y ∈ M) (hn : o.Nodup) (hp : d.Perm o) (hs : d.Pairwise (fun a b => ¬ kless b a)) : d = M := by
  have hmem : ∀ y, y ∈ d ↔ y ∈ M := fun y => (hp.mem_iff).trans (ho y)
  have hnd : d.Nodup := hp.nodup_iff.2 hn
  refine rise_ext ?_ hr hmem
  have h2 : d.Pairwise (fun a b => ¬ kless b a ∧ a ≠ b) := List.pairwise_and_iff.2 ⟨hs, hnd⟩
  refine h2.imp_of_mem fun {a b} ha hb h => ?_
  rcases kless_tri a b with h1 | h1 | h1
  · exact h1
  · exact absurd (rise_one hr ((hmem a).1 ha) ((hmem b).1 hb) h1) h.2
  · exact absurd h1 h.1
end Go.Proofs.Ytgphijfcmegdaaa
