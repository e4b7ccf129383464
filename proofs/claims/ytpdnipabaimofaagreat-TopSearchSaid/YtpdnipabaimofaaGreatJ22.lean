/-
  What the states of a run are: places with their least distances. No program in sight.
  What a run's states tell: distances, and the places within a radius. No program in sight.
  TopSearch, plain: the first hit is nearest. No program in sight.
  What a run's states and messages are is right, and there are not many of them. No program in sight.
-/
import Derived.Test.YtpdnipabaimofaaGreatJ06
import Derived.Test.YtpdnipabaimofaaGreatJ21
import Derived.Test.YtpdnipabaimofaaGreatJ11
namespace Go.Proofs.YtpdnipabaimofaaGreat
open Go.RowKit

/-- From a place on, along a direction, in one step. -/
def edgeD (r : Rws) (dir u v : Int) : Prop := v ∈ rowD r dir u.toNat
/-- In k steps. -/
def walkD (r : Rws) (dir o : Int) : Nat → Int → Prop
  | 0, v => v = o
  | k + 1, v => ∃ u, walkD r dir o k u ∧ edgeD r dir u v
/-- In k steps and in no fewer. -/
def distD (r : Rws) (dir o : Int) (k : Nat) (v : Int) : Prop := walkD r dir o k v ∧ ∀ j, j < k → ¬ walkD r dir o j v
theorem dist_uniq {r : Rws} {dir o v : Int} {j k : Nat} (h : distD r dir o j v) (h' : distD r dir o k v) : j = k := by
  rcases Nat.lt_trichotomy j k with c | c | c
  · exact absurd h.1 (h'.2 j c)
  · exact c
  · exact absurd h'.1 (h.2 k c)
theorem walk_dist {r : Rws} {dir o v : Int} : ∀ {k : Nat}, walkD r dir o k v → ∃ j, j ≤ k ∧ distD r dir o j v := by
  intro k
  induction k using Nat.strongRecOn with
  | ind k ih =>
    intro h
    by_cases c : ∃ j, j < k ∧ walkD r dir o j v
    · obtain ⟨j, hj, hw⟩ := c
      obtain ⟨i, hi, hd⟩ := ih j hj hw
      exact ⟨i, by omega, hd⟩
    · exact ⟨k, Nat.le_refl _, h, fun j hj hw => c ⟨j, hj, hw⟩⟩
theorem dist_zero {r : Rws} {dir o v : Int} : distD r dir o 0 v ↔ v = o := ⟨fun h => h.1, fun h => ⟨h, fun j hj => absurd hj (Nat.not_lt_zero j)⟩⟩
/-- The last step but one is nearer by one. -/
theorem dist_succ {r : Rws} {dir o v : Int} {k : Nat} : distD r dir o (k + 1) v ↔ (∃ u, distD r dir o k u ∧ edgeD r dir u v) ∧ ∀ j, j ≤ k → ¬ distD r dir o j v := by
  constructor
  · intro h
    obtain ⟨u, hu, he⟩ := h.1
    refine ⟨⟨u, ⟨hu, fun j hj hw => ?_⟩, he⟩, fun j hj hd => h.2 j (by omega) hd.1⟩
    exact h.2 (j + 1) (by omega) ⟨u, hw, he⟩
  · rintro ⟨⟨u, hu, he⟩, hn⟩
    refine ⟨⟨u, hu.1, he⟩, fun j hj hw => ?_⟩
    obtain ⟨i, hi, hd⟩ := walk_dist hw
    exact hn i (by omega) hd
theorem dist_down {r : Rws} {dir o v : Int} {k : Nat} (h : distD r dir o k v) : ∀ j, j ≤ k → ∃ u, distD r dir o j u := by
  induction k generalizing v with
  | zero => intro j hj; obtain rfl : j = 0 := by omega
            exact ⟨v, h⟩
  | succ k ih =>
    intro j hj
    by_cases e : j = k + 1
    · exact ⟨v, e ▸ h⟩
    · obtain ⟨⟨u, hu, _⟩, _⟩ := dist_succ.1 h
      exact ih hu j (by omega)
theorem edge_in {r : Rws} (hc : chkR r) {dir u v : Int} (hu : 0 ≤ u ∧ u < (r.n : Int)) (hd : dir = 0 ∨ dir = 1) (h : edgeD r dir u v) : 0 ≤ v ∧ v < (r.n : Int) :=
  row_in hc (x := ⟨0, dir, u, 0⟩) hd hu h
theorem walk_in {r : Rws} (hc : chkR r) {dir o : Int} (ho : 0 ≤ o ∧ o < (r.n : Int)) (hd : dir = 0 ∨ dir = 1) : ∀ {k : Nat} {v : Int}, walkD r dir o k v → 0 ≤ v ∧ v < (r.n : Int)
  | 0, v, h => by rw [show v = o from h]; exact ho
  | k + 1, v, ⟨u, hu, he⟩ => edge_in hc (walk_in hc ho hd hu) hd he
theorem edge_turn {r : Rws} (hc : chkR r) {u v : Int} (hu : 0 ≤ u ∧ u < (r.n : Int)) (hv : 0 ≤ v ∧ v < (r.n : Int)) : edgeD r 0 u v ↔ edgeD r 1 v u := by
  have h := turned_rows hc (v := u.toNat) (w := v.toNat) (by omega) (by omega)
  rw [Int.toNat_of_nonneg hu.1, Int.toNat_of_nonneg hv.1] at h
  unfold edgeD rowD
  simpa using h
/-- A distance is less than the number of places. -/
theorem dist_lt {r : Rws} (hc : chkR r) {dir o v : Int} (ho : 0 ≤ o ∧ o < (r.n : Int)) (hd : dir = 0 ∨ dir = 1) {k : Nat} (h : distD r dir o k v) : k < r.n := by
  -- places of the distances 0 to k are unlike
  have hl : ∀ k : Nat, (∃ v, distD r dir o k v) → ∃ l : List Int, l.length = k + 1 ∧ l.Nodup ∧ ∀ x ∈ l, (0 ≤ x ∧ x < (r.n : Int)) ∧ ∃ j, j ≤ k ∧ distD r dir o j x := by
    intro k
    induction k with
    | zero =>
      rintro ⟨v, hv⟩
      exact ⟨[v], rfl, by simp, fun x hx => by rw [List.mem_singleton.1 hx]; exact ⟨walk_in hc ho hd hv.1, 0, Nat.le_refl _, hv⟩⟩
    | succ k ih =>
      rintro ⟨v, hv⟩
      obtain ⟨l, h1, h2, h3⟩ := ih (dist_down hv k (by omega))
      refine ⟨v :: l, by simp [h1], List.nodup_cons.2 ⟨fun hm => ?_, h2⟩, fun x hx => ?_⟩
      · obtain ⟨_, j, hj, hd'⟩ := h3 v hm
        have := dist_uniq hd' hv
        omega
      · rcases List.mem_cons.1 hx with rfl | hx
        · exact ⟨walk_in hc ho hd hv.1, k + 1, Nat.le_refl _, hv⟩
        · obtain ⟨a, j, hj, b⟩ := h3 x hx
          exact ⟨a, j, by omega, b⟩
  obtain ⟨l, h1, h2, h3⟩ := hl k ⟨v, h⟩
  have hs := nodup_len l.length l rfl h2 (fun x hx => (h3 x hx).1)
  omega
where
  nodup_len {n : Nat} : ∀ (m : Nat) (l : List Int), l.length = m → l.Nodup → (∀ x ∈ l, 0 ≤ x ∧ x < (n : Int)) → l.length ≤ n := by
    intro m l _ hn hb
    have hs : ∀ x ∈ l, x ∈ (List.range n).map fun i : Nat => (i : Int) := fun x hx => List.mem_map.2 ⟨x.toNat, List.mem_range.2 (by have := hb x hx; omega), by have := hb x hx; omega⟩
    have := nodup_sub l _ hn hs
    simpa using this
  nodup_sub : ∀ (l q : List Int), l.Nodup → (∀ x ∈ l, x ∈ q) → l.length ≤ q.length
    | [], q, _, _ => Nat.zero_le _
    | a :: l, q, hn, hs => by
      rw [List.nodup_cons] at hn
      have ha : a ∈ q := hs a (by simp)
      have hle := List.length_erase_of_mem ha
      have hpos : 0 < q.length := List.length_pos_of_mem ha
      have ih := nodup_sub l (q.erase a) hn.2 fun y hy => (List.mem_erase_of_ne (fun e : y = a => hn.1 (by rw [← e]; exact hy))).2 (hs y (by simp [hy]))
      rw [List.length_cons]
      omega

/-- Where a run begins. -/
def origin (kind src dst dir o : Int) : Prop := dir = 0 ∧ o = src ∨ kind = 1 ∧ dir = 1 ∧ o = dst
/-- How far a run goes. -/
def within_ (kind radius : Int) (d : Int) : Prop := kind = 3 → d ≤ radius
/-- What the states and messages are behind t steps. -/
structure Ran (r : Rws) (kind radius src dst slot : Int) (t : Nat) (S M : List Msg) : Prop where
  sr : S.Pairwise kless
  mr : M.Pairwise kless
  s_ : ∀ x, x ∈ S ↔ x.slot = slot ∧ (∃ o, origin kind src dst x.dir o ∧ ∃ k : Nat, x.d = (k : Int) ∧ k < t ∧ within_ kind radius x.d ∧ distD r x.dir o k x.v)
  m_ : ∀ x, x ∈ M ↔ x.slot = slot ∧ (∃ o, origin kind src dst x.dir o ∧ x.d = (t : Int) ∧ within_ kind radius x.d ∧ distD r x.dir o t x.v)
theorem origin_uniq {kind src dst dir o o' : Int} (h : origin kind src dst dir o) (h' : origin kind src dst dir o') : o = o' := by
  unfold origin at *; omega
theorem ran_start {r : Rws} {kind radius src dst slot : Int} (hk : kind = 1 ∨ kind = 2 ∨ kind = 3) (hr : kind = 3 → 0 ≤ radius) : Ran r kind radius src dst slot 0 [] (startM kind src dst slot) := by
  refine ⟨by simp, ?_, fun x => ⟨fun h => by simp at h, fun ⟨_, _, _, _, _, h, _⟩ => absurd h (Nat.not_lt_zero _)⟩, fun x => ?_⟩
  · unfold startM
    split
    · simp [kless]
    · split <;> simp
  · have hw : ∀ d : Int, d = 0 → within_ kind radius d := fun d hd h => by have := hr h; omega
    have key : x ∈ startM kind src dst slot ↔ x.slot = slot ∧ x.d = 0 ∧ (x.dir = 0 ∧ x.v = src ∨ kind = 1 ∧ x.dir = 1 ∧ x.v = dst) := by
      obtain ⟨a, b, c, d⟩ := x
      unfold startM
      split
      · rename_i h1
        simp only [List.mem_cons, Msg.mk.injEq, List.not_mem_nil, or_false]
        constructor
        · rintro (⟨rfl, rfl, rfl, rfl⟩ | ⟨rfl, rfl, rfl, rfl⟩) <;> simp [h1]
        · rintro ⟨rfl, rfl, (⟨rfl, rfl⟩ | ⟨_, rfl, rfl⟩)⟩ <;> simp
      · rename_i h1
        rw [if_pos (by omega)]
        simp only [List.mem_cons, Msg.mk.injEq, List.not_mem_nil, or_false]
        constructor
        · rintro ⟨rfl, rfl, rfl, rfl⟩; simp
        · rintro ⟨rfl, rfl, (⟨rfl, rfl⟩ | ⟨h, _, _⟩)⟩
          · simp
          · exact absurd h h1
    rw [key]
    constructor
    · rintro ⟨h1, h2, h3⟩
      refine ⟨h1, x.v, ?_, by simpa using h2, hw _ h2, dist_zero.2 rfl⟩
      unfold origin
      rcases h3 with h3 | h3
      · exact .inl h3
      · exact .inr h3
    · rintro ⟨h1, o, ho, h2, _, h3⟩
      have h3 := dist_zero.1 h3
      refine ⟨h1, by simpa using h2, ?_⟩
      unfold origin at ho
      rw [h3]
      exact ho
theorem ran_fresh {r : Rws} {kind radius src dst slot : Int} {t : Nat} {S M : List Msg} (h : Ran r kind radius src dst slot t S M) : ∀ m, m ∈ freshL S M ↔ m ∈ M := fun m => by
  rw [mem_freshL, combine_rise h.mr]
  refine ⟨fun k => k.1, fun hm => ⟨hm, fun y hy hk => ?_⟩⟩
  obtain ⟨_, o, ho, hd, _, hD⟩ := (h.m_ m).1 hm
  obtain ⟨_, o', ho', k, hk', hlt, _, hD'⟩ := (h.s_ y).1 hy
  obtain ⟨k1, k2, k3⟩ := hk
  rw [k2] at ho' hD'
  rw [k3, origin_uniq ho' ho] at hD'
  have := dist_uniq hD' hD
  omega
theorem ran_step {r : Rws} {kind radius src dst slot : Int} {t : Nat} {S M : List Msg} (_ : chkR r) (hs : 0 ≤ src ∧ src < (r.n : Int)) (hd : kind = 1 → 0 ≤ dst ∧ dst < (r.n : Int)) (h : Ran r kind radius src dst slot t S M) :
    Ran r kind radius src dst slot (t + 1) (stepS S M) (stepM (nxM kind radius r) S M) := by
  have hi := stepS_is M h.sr
  have hf := ran_fresh h
  have hor : ∀ {dir o : Int}, origin kind src dst dir o → (0 ≤ o ∧ o < (r.n : Int)) ∧ (dir = 0 ∨ dir = 1) := fun {dir o} ho => by
    rcases ho with ⟨h1, h2⟩ | ⟨h0, h1, h2⟩
    · exact ⟨h2 ▸ hs, .inl h1⟩
    · exact ⟨h2 ▸ hd h0, .inr h1⟩
  have hS : ∀ x, x ∈ stepS S M ↔ x.slot = slot ∧ (∃ o, origin kind src dst x.dir o ∧ ∃ k : Nat, x.d = (k : Int) ∧ k < t + 1 ∧ within_ kind radius x.d ∧ distD r x.dir o k x.v) := fun x => by
    rw [hi.2.1, hf, h.s_, h.m_]
    constructor
    · rintro (⟨h1, o, ho, k, hk, hlt, hw, hD⟩ | ⟨h1, o, ho, hk, hw, hD⟩)
      · exact ⟨h1, o, ho, k, hk, by omega, hw, hD⟩
      · exact ⟨h1, o, ho, t, hk, by omega, hw, hD⟩
    · rintro ⟨h1, o, ho, k, hk, hlt, hw, hD⟩
      by_cases e : k = t
      · subst e; exact .inr ⟨h1, o, ho, hk, hw, hD⟩
      · exact .inl ⟨h1, o, ho, k, hk, by omega, hw, hD⟩
  -- what is sent
  have hN : ∀ x, x ∈ (freshL S M).flatMap (nxM kind radius r) ↔ x.slot = slot ∧ ∃ o u, origin kind src dst x.dir o ∧ x.d = (t : Int) + 1 ∧ within_ kind radius x.d ∧ distD r x.dir o t u ∧ edgeD r x.dir u x.v := fun x => by
    rw [List.mem_flatMap]
    constructor
    · rintro ⟨y, hy, hx⟩
      obtain ⟨h1, o, ho, hk, hw, hD⟩ := (h.m_ y).1 ((hf y).1 hy)
      unfold nxM at hx
      split at hx
      · simp at hx
      · rename_i hc3
        obtain ⟨v, hv, rfl⟩ := List.mem_map.1 hx
        refine ⟨h1, o, y.v, ho, by simp only; omega, fun h3 => ?_, hD, hv⟩
        simp only
        have : ¬ radius ≤ y.d := fun c => hc3 ⟨h3, c⟩
        omega
    · rintro ⟨h1, o, u, ho, hk, hw, hD, he⟩
      have hwt : within_ kind radius (t : Int) := fun h3 => by have := hw h3; omega
      have hy : (⟨slot, x.dir, u, (t : Int)⟩ : Msg) ∈ M := (h.m_ _).2 ⟨rfl, o, ho, rfl, hwt, hD⟩
      refine ⟨_, (hf _).2 hy, ?_⟩
      unfold nxM
      rw [if_neg (fun c => by have := hw c.1; have := c.2; simp only at this; omega)]
      refine List.mem_map.2 ⟨x.v, he, ?_⟩
      obtain ⟨a, b, c, d⟩ := x
      simp only at h1 hk ⊢
      rw [h1, hk]
  refine ⟨hi.1, freshL_rise _ _, hS, fun x => ?_⟩
  unfold stepM
  rw [mem_freshL, (combine_comb _).2, hN]
  have cast1 : ((t + 1 : Nat) : Int) = (t : Int) + 1 := by omega
  constructor
  · rintro ⟨⟨⟨h1, o, u, ho, hk, hw, hD, he⟩, _⟩, hfr⟩
    refine ⟨h1, o, ho, by omega, hw, dist_succ.2 ⟨⟨u, hD, he⟩, fun j hj hDj => ?_⟩⟩
    -- it would be a state
    have hy : (⟨slot, x.dir, x.v, (j : Int)⟩ : Msg) ∈ stepS S M := (hS _).2 ⟨rfl, o, ho, j, rfl, by omega, fun h3 => by have := hw h3; simp only; omega, hDj⟩
    exact hfr _ hy ⟨h1.symm, rfl, rfl⟩
  · rintro ⟨h1, o, ho, hk, hw, hD⟩
    obtain ⟨⟨u, hu, he⟩, hn⟩ := dist_succ.1 hD
    refine ⟨⟨⟨h1, o, u, ho, by omega, hw, hu, he⟩, fun m' hm' _ => ?_⟩, fun y hy hk' => ?_⟩
    · obtain ⟨_, _, _, _, hk2, _⟩ := (hN m').1 hm'
      omega
    · obtain ⟨_, o', ho', k, hk2, hlt, _, hD'⟩ := (hS y).1 hy
      obtain ⟨_, k2, k3⟩ := hk'
      rw [k2] at ho' hD'
      rw [k3, origin_uniq ho' ho] at hD'
      exact hn k (by omega) hD'
end Go.Proofs.YtpdnipabaimofaaGreat

namespace Go.Proofs.YtpdnipabaimofaaGreat
open Go.RowKit

theorem walk_add {r : Rws} {dir o : Int} {i : Nat} : ∀ {j : Nat} {v : Int}, walkD r dir o (i + j) v ↔ ∃ u, walkD r dir o i u ∧ walkD r dir u j v
  | 0, v => ⟨fun h => ⟨v, h, rfl⟩, fun ⟨u, h, e⟩ => by rw [show v = u from e]; exact h⟩
  | j + 1, v => by
    constructor
    · rintro ⟨u, hu, he⟩
      obtain ⟨x, h1, h2⟩ := (walk_add (j := j)).1 hu
      exact ⟨x, h1, u, h2, he⟩
    · rintro ⟨x, h1, u, h2, he⟩
      exact ⟨u, (walk_add (j := j)).2 ⟨x, h1, h2⟩, he⟩
theorem walk_one {r : Rws} {dir o v : Int} : walkD r dir o 1 v ↔ edgeD r dir o v := ⟨fun ⟨u, h, he⟩ => by rw [← show u = o from h]; exact he, fun h => ⟨o, rfl, h⟩⟩
theorem walk_turn {r : Rws} (hc : chkR r) : ∀ {k : Nat} {u v : Int}, (0 ≤ u ∧ u < (r.n : Int)) → (0 ≤ v ∧ v < (r.n : Int)) → (walkD r 0 u k v ↔ walkD r 1 v k u)
  | 0, u, v, _, _ => ⟨fun h => Eq.symm h, fun h => Eq.symm h⟩
  | k + 1, u, v, hu, hv => by
    constructor
    · rintro ⟨x, h1, he⟩
      have hx := walk_in hc hu (.inl rfl) h1
      rw [Nat.add_comm]
      exact walk_add.2 ⟨x, walk_one.2 ((edge_turn hc hx hv).1 he), (walk_turn hc hu hx).1 h1⟩
    · intro h
      rw [Nat.add_comm] at h
      obtain ⟨x, he, h1⟩ := walk_add.1 h
      have he := walk_one.1 he
      have hx := edge_in hc hv (.inr rfl) he
      exact ⟨x, (walk_turn hc hu hx).2 h1, (edge_turn hc hx hv).2 he⟩
theorem dist_turn {r : Rws} (hc : chkR r) {k : Nat} {u v : Int} (hu : 0 ≤ u ∧ u < (r.n : Int)) (hv : 0 ≤ v ∧ v < (r.n : Int)) : distD r 0 u k v ↔ distD r 1 v k u := by
  unfold distD
  rw [walk_turn hc hu hv]
  exact and_congr_right fun _ => forall_congr' fun j => forall_congr' fun _ => not_congr (walk_turn hc hu hv)
/-- A least walk's parts are least. -/
theorem dist_split {r : Rws} {dir o v : Int} {i j : Nat} (h : distD r dir o (i + j) v) : ∃ u, distD r dir o i u ∧ distD r dir u j v := by
  obtain ⟨u, h1, h2⟩ := walk_add.1 h.1
  refine ⟨u, ⟨h1, fun k hk hw => ?_⟩, h2, fun k hk hw => ?_⟩
  · exact h.2 (k + j) (by omega) (walk_add.2 ⟨u, hw, h2⟩)
  · exact h.2 (i + k) (by omega) (walk_add.2 ⟨u, h1, hw⟩)

/-- What 'meet' tells. -/
def MeetIs (S : List Msg) (f : Bool) (d : Int) : Prop :=
  (f = true ∧ (∃ x ∈ S, ∃ y ∈ S, x.dir = 0 ∧ y.dir = 1 ∧ x.v = y.v ∧ d = x.d + y.d) ∧ ∀ x ∈ S, ∀ y ∈ S, x.dir = 0 → y.dir = 1 → x.v = y.v → d ≤ x.d + y.d) ∨
  (f = false ∧ d = 0 ∧ ∀ x ∈ S, ∀ y ∈ S, x.dir = 0 → y.dir = 1 → x.v ≠ y.v)
/-- What a query of a distance is answered. -/
def FarIs (r : Rws) (src dst : Int) (f : Bool) (d : Int) : Prop :=
  (f = true ∧ 0 ≤ d ∧ distD r 0 src d.toNat dst) ∨ (f = false ∧ d = 0 ∧ ∀ k, ¬ distD r 0 src k dst)
theorem within_one {radius d : Int} : within_ 1 radius d := fun h => absurd h (by decide)
theorem meet_far {r : Rws} {radius src dst slot : Int} {t : Nat} {S M : List Msg} (hc : chkR r) (hs : 0 ≤ src ∧ src < (r.n : Int)) (hd : 0 ≤ dst ∧ dst < (r.n : Int)) (h : Ran r 1 radius src dst slot t S M) (ht : 1 ≤ t) {f : Bool} {d : Int} (hm : MeetIs S f d)
    (hq : f = true ∨ (∀ x ∈ M, x.dir ≠ 0) ∨ (∀ x ∈ M, x.dir ≠ 1)) : FarIs r src dst f d := by
  have o0 : ∀ {o : Int}, origin 1 src dst 0 o → o = src := fun {o} ho => by unfold origin at ho; omega
  have o1 : ∀ {o : Int}, origin 1 src dst 1 o → o = dst := fun {o} ho => by unfold origin at ho; omega
  have i0 : origin 1 src dst 0 src := .inl ⟨rfl, rfl⟩
  have i1 : origin 1 src dst 1 dst := .inr ⟨rfl, rfl, rfl⟩
  have in0 : ∀ {k : Nat} {v : Int}, k < t → distD r 0 src k v → (⟨slot, 0, v, (k : Int)⟩ : Msg) ∈ S := fun {k v} hk hD => (h.s_ _).2 ⟨rfl, src, i0, k, rfl, hk, within_one, hD⟩
  have in1 : ∀ {k : Nat} {v : Int}, k < t → distD r 1 dst k v → (⟨slot, 1, v, (k : Int)⟩ : Msg) ∈ S := fun {k v} hk hD => (h.s_ _).2 ⟨rfl, dst, i1, k, rfl, hk, within_one, hD⟩
  rcases hm with ⟨rfl, ⟨x, hx, y, hy, x0, y1, hv, rfl⟩, hl⟩ | ⟨rfl, rfl, hno⟩
  · obtain ⟨_, o, ho, i, xi, hi, _, hD⟩ := (h.s_ x).1 hx
    obtain ⟨_, o', ho', j, yj, hj, _, hD'⟩ := (h.s_ y).1 hy
    rw [x0] at ho hD
    rw [y1] at ho' hD'
    rw [o0 ho] at hD
    rw [o1 ho', ← hv] at hD'
    have hvr := walk_in hc hs (.inl rfl) hD.1
    have hw : walkD r 0 src (i + j) dst := walk_add.2 ⟨x.v, hD.1, (walk_turn hc hvr hd).2 hD'.1⟩
    obtain ⟨L, hL, hLD⟩ := walk_dist hw
    obtain ⟨p, e⟩ : ∃ p, p = min (t - 1) L := ⟨_, rfl⟩
    have hp : p ≤ L := by omega
    have h2 : L = p + (L - p) := by omega
    rw [h2] at hLD
    obtain ⟨u, hu1, hu2⟩ := dist_split hLD
    have hur := walk_in hc hs (.inl rfl) hu1.1
    have h3 := (dist_turn hc hur hd).1 hu2
    have h4 := hl _ (in0 (by omega) hu1) _ (in1 (k := L - p) (by omega) h3) rfl rfl rfl
    simp only at h4
    refine .inl ⟨rfl, by omega, ?_⟩
    have e2 : (x.d + y.d).toNat = p + (L - p) := by omega
    rw [e2]
    exact hLD
  · refine .inr ⟨rfl, rfl, fun L hL => ?_⟩
    rcases hq with hq | hq | hq
    · cases hq
    · have hlt : L < t := by
        rcases Nat.lt_or_ge L t with c | c
        · exact c
        · obtain ⟨u, hu⟩ := dist_down hL t c
          exact absurd rfl (hq _ ((h.m_ ⟨slot, 0, u, (t : Int)⟩).2 ⟨rfl, src, i0, rfl, within_one, hu⟩))
      exact hno _ (in0 hlt hL) _ (in1 (k := 0) (by omega) (dist_zero.2 rfl)) rfl rfl rfl
    · have hT := (dist_turn hc hs hd).1 hL
      have hlt : L < t := by
        rcases Nat.lt_or_ge L t with c | c
        · exact c
        · obtain ⟨u, hu⟩ := dist_down hT t c
          exact absurd rfl (hq _ ((h.m_ ⟨slot, 1, u, (t : Int)⟩).2 ⟨rfl, dst, i1, rfl, within_one, hu⟩))
      exact hno _ (in0 (k := 0) (by omega) (dist_zero.2 rfl)) _ (in1 hlt hT) rfl rfl rfl
theorem far_uniq {r : Rws} {src dst : Int} {f f' : Bool} {d d' : Int} (h : FarIs r src dst f d) (h' : FarIs r src dst f' d') : f = f' ∧ d = d' := by
  rcases h with ⟨rfl, h1, h2⟩ | ⟨rfl, rfl, h2⟩ <;> rcases h' with ⟨rfl, k1, k2⟩ | ⟨rfl, rfl, k2⟩
  · have := dist_uniq h2 k2
    exact ⟨rfl, by omega⟩
  · exact absurd h2 (k2 _)
  · exact absurd k2 (h2 _)
  · exact ⟨rfl, rfl⟩
/-- A run ends. -/
theorem ran_ends {r : Rws} {kind radius src dst slot : Int} {t : Nat} {S M : List Msg} (hc : chkR r) (hs : 0 ≤ src ∧ src < (r.n : Int)) (hd : kind = 1 → 0 ≤ dst ∧ dst < (r.n : Int)) (h : Ran r kind radius src dst slot t S M) (ht : r.n ≤ t) : M = [] := by
  rcases M with _ | ⟨x, M⟩
  · rfl
  · obtain ⟨_, o, ho, _, _, hD⟩ := (h.m_ x).1 (by simp)
    have ho' : (0 ≤ o ∧ o < (r.n : Int)) ∧ (x.dir = 0 ∨ x.dir = 1) := by
      rcases ho with ⟨h1, h2⟩ | ⟨h0, h1, h2⟩
      · exact ⟨h2 ▸ hs, .inl h1⟩
      · exact ⟨h2 ▸ hd h0, .inr h1⟩
    have := dist_lt hc ho'.1 ho'.2 hD
    omega
/-- Behind the last step of a keyword query: the places within the radius. -/
theorem ran_all {r : Rws} {radius src dst slot : Int} {t : Nat} {S : List Msg} (h : Ran r 3 radius src dst slot t S []) (x : Msg) :
    x ∈ S ↔ x.slot = slot ∧ x.dir = 0 ∧ 0 ≤ x.d ∧ x.d ≤ radius ∧ distD r 0 src x.d.toNat x.v := by
  rw [h.s_]
  constructor
  · rintro ⟨h1, o, ho, k, hk, hlt, hw, hD⟩
    have ho' : x.dir = 0 ∧ o = src := by unfold origin at ho; omega
    rw [ho'.1, ho'.2] at hD
    refine ⟨h1, ho'.1, by omega, hw rfl, ?_⟩
    rw [hk]
    exact hD
  · rintro ⟨h1, h2, h3, h4, hD⟩
    refine ⟨h1, src, .inl ⟨h2, rfl⟩, x.d.toNat, by omega, ?_, fun _ => h4, by rw [h2]; exact hD⟩
    rcases Nat.lt_or_ge x.d.toNat t with c | c
    · exact c
    · obtain ⟨u, hu⟩ := dist_down hD t c
      exact absurd ((h.m_ ⟨slot, 0, u, (t : Int)⟩).2 ⟨rfl, src, .inl ⟨rfl, rfl⟩, rfl, fun _ => by simp only; omega, hu⟩) (by simp)
end Go.Proofs.YtpdnipabaimofaaGreat

namespace Go.Proofs.YtpdnipabaimofaaGreat
open Go.RowKit

/-- The hits of states. -/
def hitsL (S : List Msg) (places : List Int) : List Hit := (S.filter fun x => decide (x.dir = 0 ∧ x.v ∈ places)).map fun x => ⟨x.v, x.d⟩
theorem mem_hits {S : List Msg} {places : List Int} {z : Hit} : z ∈ hitsL S places ↔ ∃ x ∈ S, x.dir = 0 ∧ x.v ∈ places ∧ z = ⟨x.v, x.d⟩ := by
  unfold hitsL
  constructor
  · intro h
    obtain ⟨x, hx, rfl⟩ := List.mem_map.1 h
    obtain ⟨h1, h2⟩ := List.mem_filter.1 hx
    have h2 := of_decide_eq_true h2
    exact ⟨x, h1, h2.1, h2.2, rfl⟩
  · rintro ⟨x, h1, h2, h3, rfl⟩
    exact List.mem_map.2 ⟨x, List.mem_filter.2 ⟨h1, decide_eq_true ⟨h2, h3⟩⟩, rfl⟩
/-- The least distance to places so far. -/
def LeastIs (r : Rws) (src radius : Int) (ps : List Int) (first : Int) : Prop :=
  (first = -1 ∧ ∀ p ∈ ps, (0 ≤ p ∧ p < (r.n : Int)) → ∀ d, FarIs r src p true d → radius < d) ∨
  (0 ≤ first ∧ (∃ p ∈ ps, (0 ≤ p ∧ p < (r.n : Int)) ∧ FarIs r src p true first) ∧ first ≤ radius ∧ ∀ p ∈ ps, (0 ≤ p ∧ p < (r.n : Int)) → ∀ d, FarIs r src p true d → d ≤ radius → first ≤ d)
theorem least_nil {r : Rws} {src radius : Int} : LeastIs r src radius [] (-1) := .inl ⟨rfl, by simp⟩
theorem least_out {r : Rws} {src radius : Int} {ps : List Int} {first p : Int} (h : LeastIs r src radius ps first) (hp : ¬ (0 ≤ p ∧ p < (r.n : Int))) : LeastIs r src radius (ps ++ [p]) first := by
  have key : ∀ q ∈ ps ++ [p], (0 ≤ q ∧ q < (r.n : Int)) → q ∈ ps := fun q hq hr => by
    rcases List.mem_append.1 hq with c | c
    · exact c
    · rw [List.mem_singleton.1 c] at hr; exact absurd hr hp
  rcases h with ⟨h1, h2⟩ | ⟨h1, ⟨q, hq, h2⟩, h3, h4⟩
  · exact .inl ⟨h1, fun q hq hr => h2 q (key q hq hr) hr⟩
  · exact .inr ⟨h1, ⟨q, List.mem_append_left _ hq, h2⟩, h3, fun q hq hr => h4 q (key q hq hr) hr⟩
theorem least_in {r : Rws} {src radius : Int} {ps : List Int} {first p : Int} {f : Bool} {d : Int} (h : LeastIs r src radius ps first) (hp : 0 ≤ p ∧ p < (r.n : Int)) (hf : FarIs r src p f d) :
    LeastIs r src radius (ps ++ [p]) (if f = true ∧ d ≤ radius ∧ (first < 0 ∨ d < first) then d else first) := by
  split
  · rename_i c
    obtain ⟨rfl, c2, c3⟩ := c
    have hd : 0 ≤ d := by rcases hf with ⟨_, h, _⟩ | ⟨h, _⟩; exact h; cases h
    refine .inr ⟨hd, ⟨p, by simp, hp, hf⟩, c2, fun q hq hr d' hd' hle => ?_⟩
    rcases List.mem_append.1 hq with k | k
    · rcases h with ⟨_, h2⟩ | ⟨h1, _, _, h4⟩
      · have := h2 q k hr d' hd'; omega
      · have := h4 q k hr d' hd' hle; omega
    · rw [List.mem_singleton.1 k] at hd'
      have := (far_uniq hf hd').2
      omega
  · rename_i c
    rcases h with ⟨h1, h2⟩ | ⟨h1, ⟨q, hq, h2⟩, h3, h4⟩
    · refine .inl ⟨h1, fun q hq hr d' hd' => ?_⟩
      rcases List.mem_append.1 hq with k | k
      · exact h2 q k hr d' hd'
      · rw [List.mem_singleton.1 k] at hd'
        obtain ⟨e1, e2⟩ := far_uniq hf hd'
        subst e1 e2
        rcases Int.lt_or_le radius d with x | x
        · exact x
        · exact absurd ⟨rfl, x, .inl (by omega)⟩ c
    · refine .inr ⟨h1, ⟨q, List.mem_append_left _ hq, h2⟩, h3, fun q hq hr d' hd' hle => ?_⟩
      rcases List.mem_append.1 hq with k | k
      · exact h4 q k hr d' hd' hle
      · rw [List.mem_singleton.1 k] at hd'
        obtain ⟨e1, e2⟩ := far_uniq hf hd'
        subst e1 e2
        rcases Int.lt_or_le d first with x | x
        · exact absurd ⟨rfl, hle, .inr x⟩ c
        · exact x
/-- Without a hit no place is within the radius. -/
theorem search_none {r : Rws} {radius src dst slot first : Int} {t : Nat} {S : List Msg} {places : List Int} (h : Ran r 3 radius src dst slot t S []) (hh : hitsL S places = []) (hl : LeastIs r src radius places first) : first < 0 := by
  rcases hl with ⟨h1, _⟩ | ⟨h1, ⟨p, hp, _, hf⟩, h3, _⟩
  · omega
  · rcases hf with ⟨_, _, hD⟩ | ⟨c, _⟩
    · have : (⟨p, first⟩ : Hit) ∈ hitsL S places := mem_hits.2 ⟨⟨slot, 0, p, first⟩, (ran_all h _).2 ⟨rfl, rfl, h1, h3, hD⟩, rfl, hp, rfl⟩
      rw [hh] at this
      simp at this
    · cases c
/-- The first hit is as far as the distance query says, and no place is nearer. -/
theorem search_some {r : Rws} {radius src dst slot first : Int} {t : Nat} {S : List Msg} {places : List Int} (hc : chkR r) (hs : 0 ≤ src ∧ src < (r.n : Int)) (h : Ran r 3 radius src dst slot t S []) {m : Hit} (hm : m ∈ hitsL S places) (hn : ∀ x ∈ hitsL S places, hle m x) (hl : LeastIs r src radius places first) :
    (0 ≤ m.v ∧ m.v < (r.n : Int)) ∧ FarIs r src m.v true m.d ∧ m.d = first := by
  obtain ⟨x, hx, h1, h2, rfl⟩ := mem_hits.1 hm
  obtain ⟨_, _, h3, h4, hD⟩ := (ran_all h x).1 hx
  have hv := walk_in hc hs (.inl rfl) hD.1
  have hf : FarIs r src x.v true x.d := .inl ⟨rfl, h3, hD⟩
  refine ⟨hv, hf, ?_⟩
  rcases hl with ⟨_, k2⟩ | ⟨k1, ⟨p, hp, hpr, kf⟩, k3, k4⟩
  · have := k2 _ h2 hv _ hf
    omega
  · have e1 := k4 _ h2 hv _ hf h4
    rcases kf with ⟨_, _, kD⟩ | ⟨c, _⟩
    · have hz := hn ⟨p, first⟩ (mem_hits.2 ⟨⟨slot, 0, p, first⟩, (ran_all h _).2 ⟨rfl, rfl, k1, k3, kD⟩, rfl, hp, rfl⟩)
      unfold hle at hz
      simp only at hz ⊢
      omega
    · cases c
end Go.Proofs.YtpdnipabaimofaaGreat

namespace Go.Proofs.YtpdnipabaimofaaGreat
open Go.RowKit

theorem key_len {n : Nat} {slot : Int} {l : List Msg} (h : ∀ x ∈ l, x.slot = slot ∧ (x.dir = 0 ∨ x.dir = 1) ∧ (0 ≤ x.v ∧ x.v < (n : Int))) (hp : l.Pairwise kless) : l.length ≤ 2 * n := by
  have h1 : (l.map fun x => x.dir * (n : Int) + x.v).Pairwise (· < ·) := by
    rw [List.pairwise_map]
    refine hp.imp_of_mem fun {a b} ha hb hk => ?_
    obtain ⟨a1, a2, a3⟩ := h a ha
    obtain ⟨b1, b2, b3⟩ := h b hb
    unfold kless at hk
    rcases a2 with a2 | a2 <;> rcases b2 with b2 | b2 <;> · (rw [a2, b2] at hk ⊢; omega)
  have h2 := rise_lenI _ 0 (2 * (n : Int)) h1 (fun y hy => by
    obtain ⟨x, hx, rfl⟩ := List.mem_map.1 hy
    obtain ⟨-, a2, a3⟩ := h x hx
    rcases a2 with a2 | a2 <;> rw [a2] <;> omega) (by omega)
  rw [List.length_map] at h2
  omega
section
variable {r : Rws} {kind radius src dst slot : Int} {t : Nat} {S M : List Msg}
theorem ran_s (hc : chkR r) (hs : 0 ≤ src ∧ src < (r.n : Int)) (hd : kind = 1 → 0 ≤ dst ∧ dst < (r.n : Int)) (h : Ran r kind radius src dst slot t S M) : ∀ x ∈ S, x.slot = slot ∧ (x.dir = 0 ∨ x.dir = 1) ∧ (0 ≤ x.v ∧ x.v < (r.n : Int)) ∧ (0 ≤ x.d ∧ x.d ≤ (t : Int)) := fun x hx => by
  obtain ⟨h1, o, ho, k, hk, hlt, _, hD⟩ := (h.s_ x).1 hx
  have ho' : (0 ≤ o ∧ o < (r.n : Int)) ∧ (x.dir = 0 ∨ x.dir = 1) := by
    rcases ho with ⟨h1, h2⟩ | ⟨h0, h1, h2⟩
    · exact ⟨h2 ▸ hs, .inl h1⟩
    · exact ⟨h2 ▸ hd h0, .inr h1⟩
  exact ⟨h1, ho'.2, walk_in hc ho'.1 ho'.2 hD.1, by omega, by omega⟩
theorem ran_m (hc : chkR r) (hs : 0 ≤ src ∧ src < (r.n : Int)) (hd : kind = 1 → 0 ≤ dst ∧ dst < (r.n : Int)) (h : Ran r kind radius src dst slot t S M) : ∀ x ∈ M, x.slot = slot ∧ (x.dir = 0 ∨ x.dir = 1) ∧ (0 ≤ x.v ∧ x.v < (r.n : Int)) ∧ (0 ≤ x.d ∧ x.d ≤ (t : Int)) := fun x hx => by
  obtain ⟨h1, o, ho, hk, _, hD⟩ := (h.m_ x).1 hx
  have ho' : (0 ≤ o ∧ o < (r.n : Int)) ∧ (x.dir = 0 ∨ x.dir = 1) := by
    rcases ho with ⟨h1, h2⟩ | ⟨h0, h1, h2⟩
    · exact ⟨h2 ▸ hs, .inl h1⟩
    · exact ⟨h2 ▸ hd h0, .inr h1⟩
  exact ⟨h1, ho'.2, walk_in hc ho'.1 ho'.2 hD.1, by omega, by omega⟩
theorem key_may {n : Nat} {x : Msg} (h : x.slot = slot ∧ (x.dir = 0 ∨ x.dir = 1) ∧ (0 ≤ x.v ∧ x.v < (n : Int)) ∧ (0 ≤ x.d ∧ x.d ≤ (t : Int))) (hsl : 0 ≤ slot ∧ slot ≤ 1000) (hn : n ≤ 200) (ht : t ≤ 200) : mayM x ∧ x.v < (n : Int) := by
  obtain ⟨h1, h2, h3, h4⟩ := h
  unfold mayM mayK
  omega
/-- All that a step asks. -/
structure RanOk (r : Rws) (S M : List Msg) : Prop where
  ok : ∀ k : Int, 1 ≤ k ∧ k ≤ 16 → stepOk S M k (r.n : Int)
  fs : ∀ m ∈ S, m.fits
  fm : ∀ m ∈ M, m.fits
  ls : S.length ≤ 2 * r.n
  lm : M.length ≤ 2 * r.n
theorem ran_ok (hc : chkR r) (hs : 0 ≤ src ∧ src < (r.n : Int)) (hd : kind = 1 → 0 ≤ dst ∧ dst < (r.n : Int)) (h : Ran r kind radius src dst slot t S M) (hsl : 0 ≤ slot ∧ slot ≤ 1000) (hn : r.n ≤ 200) (ht : t ≤ 200) : RanOk r S M := by
  have h1 := ran_s hc hs hd h
  have h2 := ran_m hc hs hd h
  exact ⟨fun k hk => ⟨⟨fun x hx => key_may (h1 x hx) hsl hn ht, h.sr⟩, fun x hx => (key_may (h2 x hx) hsl hn ht).1, fun x hx => (key_may (h2 x hx) hsl hn ht).2, hk⟩,
    fun x hx => may_fits (key_may (h1 x hx) hsl hn ht).1, fun x hx => may_fits (key_may (h2 x hx) hsl hn ht).1,
    key_len (fun x hx => ⟨(h1 x hx).1, (h1 x hx).2.1, (h1 x hx).2.2.1⟩) h.sr, key_len (fun x hx => ⟨(h2 x hx).1, (h2 x hx).2.1, (h2 x hx).2.2.1⟩) h.mr⟩
end
end Go.Proofs.YtpdnipabaimofaaGreat
