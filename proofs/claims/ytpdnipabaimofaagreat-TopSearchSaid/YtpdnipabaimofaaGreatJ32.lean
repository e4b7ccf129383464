/-
  job.Run of a keyword query, and of a distance query.
-/
import Derived.Test.YtpdnipabaimofaaGreatJ30
import Derived.Test.YtpdnipabaimofaaGreatJ31
import Derived.Test.YtpdnipabaimofaaGreatJ25
import Derived.Test.YtpdnipabaimofaaGreatJ26
namespace Go.Proofs.YtpdnipabaimofaaGreat
open Go Go.RowKit Go.Shelf Go.Lib

/-- What Done hands out for a keyword query. -/
def GoodW (Ok : Prop) (k : Nat) (L : List Pst) (ws : List ByteArray) (lim : Nat) (S M : List Msg) (ans : Value) (r : Bool) (X : World) : Prop :=
  Ok ∧ ((M ≠ [] ∧ r = false ∧ ans = .agg #[.bool false, .int .i64 0, .slice none 0 0]) ∨
    (M = [] ∧ r = true ∧ ∃ (A : Option Addr) (n c : Nat) (o : List Hit) (places : List Int), ans = .agg #[.bool (decide (0 < n)), .int .i64 0, .slice A n c] ∧ (∀ x, x ∈ places ↔ inAll L ws x) ∧ FirstK k (hitsL S places) o ∧ X.ownsRow lim 43 2 (.slice A n c) n (hitsV o)))
theorem good_w (Ok : Prop) (k : Nat) (L : List Pst) (ws : List ByteArray) : GoodP (GoodW Ok k L ws) := by
  refine ⟨?_, ?_, ?_⟩
  · rintro lim S M ans r X ⟨-, ⟨-, -, h⟩ | ⟨-, -, A, n, c, o, places, h, -⟩⟩
    · exact ⟨_, _, _, _, _, h⟩
    · exact ⟨_, _, _, _, _, h⟩
  · rintro lim S M ans r X X' row ⟨h0, h | ⟨h1, h2, A, n, c, o, places, h3, h4, h5, h6⟩⟩ hg hr
    · exact ⟨h0, .inl h⟩
    · refine ⟨h0, .inr ⟨h1, h2, A, n, c, o, places, h3, h4, h5, h6.kept hg ?_⟩⟩
      have hlt := own_lt h6
      rcases h6.2 with ⟨hv, -⟩ | ⟨g, cap, cur, hv, hge, hb, -⟩
      · rw [hv]; exact .inl rfl
      · refine .inr fun e' => ?_
        rw [hv] at e'
        have e' : row = some g := e'.symm
        rcases hr g e' with h | ⟨o', ho', hc'⟩
        · have : lim ≤ g := hge
          omega
        · rw [hb] at ho'; cases ho'; cases hc'
  · rintro lim S ans X ⟨-, ⟨h, -⟩ | ⟨-, h, -⟩⟩
    · exact h rfl
    · cases h
/-- What Run hands out for a keyword query. -/
def FoundW (Ok : Prop) (k : Nat) (q : QuA) (a : RwA) (L : List Pst) (ws : List ByteArray) (w : World) (e : Ending) (w' : World) : Prop :=
  ∃ (A : Option Addr) (n c : Nat) (o : List Hit) (places : List Int) (S : List Msg) (m t : Nat), e = .returned (.tuple #[.agg #[.bool (decide (0 < n)), .int .i64 0, .slice A n c], .int .i64 (m : Int), .int .i64 0]) ∧ Ok ∧ (∀ x, x ∈ places ↔ inAll L ws x) ∧ FirstK k (hitsL S places) o ∧ w'.ownsRow w.heap.size 43 2 (.slice A n c) n (hitsV o) ∧ Ran a.r q.kind q.radius q.src q.dst 0 t S [] ∧ Below w.heap.size w w'
theorem found_end {Ok : Prop} {k : Nat} {q : QuA} {a : RwA} {L : List Pst} {ws : List ByteArray} {w w' : World} {e : Ending} (h : RunEnd (GoodW Ok k L ws) q a w e w') : FoundW Ok k q a L ws w e w' := by
  obtain ⟨lim, S, M, ans, n, t, rfl, hlim, -, ⟨hok, ⟨-, h, -⟩ | ⟨rfl, -, A, n', c, o, places, rfl, hp, hf, ho⟩⟩, hran, hB⟩ := h
  · cases h
  · exact ⟨A, n', c, o, places, S, n, t, rfl, hok, hp, hf, own_more ho hlim, hran, hB⟩
section
variable {q : QuA} {a : RwA} {Al Ap : Option Addr} {nl cl k np cp : Nat} {ps : List Int} {L : List Pst} {ws : List ByteArray} {w : World}
theorem pre_w (Ok Er : Prop) (hk : q.kind = 3) (hl : PsIn w w.heap.size Al nl L) (hn : nl ≤ 1000000) (hp : ∀ p ∈ L, p.n ≤ 1000) (hw : Reads w w.heap.size 1 q.W q.nw (sv ws)) (hnw : q.nw ≤ 9223372036854775807) (hcw : q.nw ≤ q.cw) (_ : RwIn w w.heap.size a) (hrn : a.r.n ≤ 190)
    (hok : Ok → chkR a.r ∧ (0 ≤ q.src ∧ q.src < (a.r.n : Int)) ∧ (0 ≤ q.radius ∧ 1 ≤ q.most ∧ 1 ≤ q.nw ∧ q.most ≤ 100))
    (hchk : ∀ X, Below w.heap.size w X → Calls Tryz.prog 10 #[quVal q, rwVal a] X fun e w' => ∃ c : Int, e = .returned (.int .i64 c) ∧ (c = 0 → Ok) ∧ (c ≠ 0 → Er) ∧ Below X.heap.size X w') : RunPre (GoodW Ok q.most.toNat L ws) Ok Er q a Al nl cl k Ap np cp ps w := by
  refine ⟨hchk, fun h => ⟨(hok h).1, (hok h).2.1, fun e => absurd e (by omega), .inr (.inr hk), fun _ => (hok h).2.2.1⟩, good_w _ _ _ _, ?_⟩
  intro h lim bx br X S M t As ns cs Am nm cm hlim hB hR ht
  obtain ⟨h1, h2, h3, h4, h5, h6⟩ := hok h
  have ro := ran_ok h1 h2 (fun e => absurd e (by omega)) hR.ran (by omega) (by omega) (by omega)
  have e1 := hR.s_.mail_len
  have e2 := hR.m_.mail_len
  have e3 := ro.ls
  refine (doneWords_c q Al nl cl L As ns cs S Am nm cm M ws q.most.toNat X hk ((hl.below hB).more hB.size) hn hp ((hw.below hB).more hB.size) hnw hcw (by omega) (by omega) (by omega) hR.s_ (by omega)).mono ?_
  rintro e w' (⟨hne, rfl, hB'⟩ | ⟨h0, A, n, c, o, places, rfl, hpl, hf, ho, hB'⟩)
  · exact ⟨_, _, rfl, ⟨h, .inl ⟨fun e => hne (by rw [← e2, e]; rfl), rfl, rfl⟩⟩, hB'⟩
  · exact ⟨_, _, rfl, ⟨h, .inr ⟨List.length_eq_zero_iff.1 (by omega), rfl, A, n, c, o, places, rfl, hpl, hf, own_more ho hlim⟩⟩, hB'⟩
theorem runWords_c (hk : q.kind = 3) (hl : PsIn w w.heap.size Al nl L) (hn : nl ≤ 1000000) (hp : ∀ p ∈ L, p.n ≤ 1000) (hw : Reads w w.heap.size 1 q.W q.nw (sv ws)) (hs : bounded ws) (hnw : q.nw ≤ 9223372036854775807) (hcw : q.nw ≤ q.cw) (hr : RwIn w w.heap.size a) (hrn : a.r.n ≤ 190) (hP : Reads w w.heap.size 1 Ap np (iv ps)) (hnp : np ≤ maxLen) (hk16 : 1 ≤ k ∧ k ≤ 16) :
    Calls Tryz.prog 7 #[quVal q, rwVal a, .slice Al nl cl, .int .i64 (k : Int), .int .i64 300, .slice Ap np cp] w fun e w' => RunErr w e w' ∨ FoundW (chkR a.r ∧ okQ q ((a.n1 : Int) - 1)) q.most.toNat q a L ws w e w' := by
  refine (jobRun_c (GoodW (chkR a.r ∧ okQ q ((a.n1 : Int) - 1)) q.most.toNat L ws) (chkR a.r ∧ okQ q ((a.n1 : Int) - 1)) True q a Al nl cl k Ap np cp ps w hr hP hnp hk16 hrn (pre_w _ _ hk hl hn hp hw hnw hcw hr hrn ?_ ?_)).mono ?_
  · rintro ⟨h1, h2⟩
    rw [rw_n hr h1] at h2
    exact ⟨h1, h2.2.1, h2.2.2.2 hk⟩
  · intro X hB
    refine (jobCheck_c q a ws X ((hr.below hB).more hB.size) ((hw.below hB).more hB.size) (by unfold maxLen; omega) hs).mono ?_
    rintro e w' ⟨c, rfl, h, hB'⟩
    exact ⟨c, rfl, h, fun _ => trivial, hB'⟩
  · rintro e w' (⟨-, h⟩ | h)
    · exact .inl h
    · exact .inr (found_end h)
theorem runWords9_c (hk : q.kind = 3) (hl : PsIn w w.heap.size Al nl L) (hn : nl ≤ 1000000) (hp : ∀ p ∈ L, p.n ≤ 1000) (hw : Reads w w.heap.size 1 q.W q.nw (sv ws)) (hs : bounded ws) (hiw : ∀ s ∈ ws, isWord s) (hnw : 1 ≤ q.nw ∧ q.nw ≤ 8) (hcw : q.nw ≤ q.cw) (hr : RwIn w w.heap.size a) (hc : chkR a.r) (hrn : a.r.n ≤ 8) (hsr : 0 ≤ q.src ∧ q.src < (a.r.n : Int)) (hrad : 0 ≤ q.radius ∧ q.radius ≤ 200) (hm : 1 ≤ q.most ∧ q.most ≤ 100) (hP : Reads w w.heap.size 1 Ap np (iv ps)) (hnp : np ≤ maxLen) (hk16 : 1 ≤ k ∧ k ≤ 16) :
    Calls Tryz.prog 7 #[quVal q, rwVal a, .slice Al nl cl, .int .i64 (k : Int), .int .i64 9, .slice Ap np cp] w fun e w' => FoundW True q.most.toNat q a L ws w e w' := by
  refine (jobRun9_c (GoodW True q.most.toNat L ws) True False q a Al nl cl k Ap np cp ps w hr hP hnp hk16 hrn (pre_w _ _ hk hl hn hp hw (by omega) hcw hr (by omega) ?_ ?_)).mono ?_
  · intro _
    exact ⟨hc, hsr, hrad.1, hm.1, hnw.1, hm.2⟩
  · intro X hB
    refine (jobCheckWord_c q a X ((hr.below hB).more hB.size) hc ws ((hw.below hB).more hB.size) hs hiw hk hnw hsr hrad hm).mono ?_
    rintro e w' ⟨rfl, hB'⟩
    exact ⟨0, rfl, fun _ => trivial, fun h => absurd rfl h, hB'⟩
  · rintro e w' (⟨h, -⟩ | h)
    · exact h.elim
    · exact found_end h
end
/-- What Done hands out for a distance query. -/
def GoodD (S M : List Msg) (ans : Value) (r : Bool) : Prop :=
  ∃ (fd : Bool) (d : Int), ans = .agg #[.bool fd, .int .i64 d, .slice none 0 0] ∧ MeetIs S fd d ∧ (r = true ↔ fd = true ∨ (∀ x ∈ M, x.dir ≠ 0) ∨ (∀ x ∈ M, x.dir ≠ 1))
theorem good_d : GoodP (fun _ S M ans r _ => GoodD S M ans r) := by
  refine ⟨?_, fun h _ _ => h, ?_⟩
  · rintro lim S M ans r X ⟨fd, d, h, -⟩
    exact ⟨_, _, _, _, _, h⟩
  · rintro lim S ans X ⟨fd, d, -, -, h⟩
    have := h.2 (.inr (.inl (by simp)))
    cases this
/-- What Run hands out for a distance query. -/
def FoundD (q : QuA) (a : RwA) (w : World) (e : Ending) (w' : World) : Prop :=
  ∃ (fd : Bool) (d : Int) (m : Nat), e = .returned (.tuple #[.agg #[.bool fd, .int .i64 d, .slice none 0 0], .int .i64 (m : Int), .int .i64 0]) ∧ FarIs a.r q.src q.dst fd d ∧ Below w.heap.size w w'
theorem runFar_c {q : QuA} {a : RwA} {Ap : Option Addr} {k np cp : Nat} {ps : List Int} {w : World} (hk : q.kind = 1) (hr : RwIn w w.heap.size a) (hc : chkR a.r) (hrn : a.r.n ≤ 190) (h1 : 0 ≤ q.src ∧ q.src < (a.r.n : Int)) (h2 : 0 ≤ q.dst ∧ q.dst < (a.r.n : Int)) (hP : Reads w w.heap.size 1 Ap np (iv ps)) (hnp : np ≤ maxLen) (hk16 : 1 ≤ k ∧ k ≤ 16) :
    Calls Tryz.prog 7 #[quVal q, rwVal a, .slice none 0 0, .int .i64 (k : Int), .int .i64 300, .slice Ap np cp] w fun e w' => FoundD q a w e w' := by
  refine (jobRun_c (fun _ S M ans r _ => GoodD S M ans r) True False q a none 0 0 k Ap np cp ps w hr hP hnp hk16 hrn ⟨?_, fun _ => ⟨hc, h1, fun _ => h2, .inl hk, fun e => absurd e (by omega)⟩, good_d, ?_⟩).mono ?_
  · intro X hB
    refine (jobCheckFar_c q a X ((hr.below hB).more hB.size) hc hk h1 h2).mono ?_
    rintro e w' ⟨rfl, hB'⟩
    exact ⟨0, rfl, fun _ => trivial, fun h => absurd rfl h, hB'⟩
  · intro _ lim bx br X S M t As ns cs Am nm cm hlim hB hR ht
    have ro := ran_ok hc h1 (fun _ => h2) hR.ran (by omega) (by omega) (by omega)
    have rs := ran_s hc h1 (fun _ => h2) hR.ran
    have e1 := hR.s_.mail_len
    have e2 := hR.m_.mail_len
    have e3 := ro.ls
    have e4 := ro.lm
    refine (doneFar_c q none 0 0 As ns cs S Am nm cm M X hk hR.s_ (by omega) (fun x hx => (ro.fs x hx).2.2.1) (fun x hx => ?_) hR.m_ (by omega)).mono ?_
    · have := (rs x hx).2.2.2
      omega
    · rintro e w' ⟨fd, d, r, rfl, hm, hq, hB'⟩
      exact ⟨_, _, rfl, ⟨fd, d, rfl, hm, hq⟩, hB'⟩
  · rintro e w' (⟨h, -⟩ | ⟨lim, S, M, ans, n, t, rfl, hlim, ht, ⟨fd, d, rfl, hm, hq⟩, hran, hB⟩)
    · exact h.elim
    · rw [hk] at hran
      exact ⟨fd, d, n, rfl, meet_far hc h1 h2 hran ht hm (hq.1 rfl), hB⟩
end Go.Proofs.YtpdnipabaimofaaGreat
