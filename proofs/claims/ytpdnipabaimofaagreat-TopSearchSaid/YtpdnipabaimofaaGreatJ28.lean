/-
  A run's iterator: its contract.
-/
import Derived.Test.YtpdnipabaimofaaGreatJ27
import Derived.Test.YtpdnipabaimofaaGreatJ08
import Derived.Sort.LoopGhostIn
import Derived.StillTailTactics
import Derived.BigRegion
namespace Go.Proofs.YtpdnipabaimofaaGreat
open Go Go.RowKit Go.Shelf Go.Lib

/-- What Done hands out, whichever the kind. -/
def DoneOk (Good : List Msg → List Msg → Value → Bool → World → Prop) (S M : List Msg) (X : World) (e : Ending) (X' : World) : Prop :=
  ∃ (ans : Value) (r : Bool), e = .returned (.tuple #[ans, .bool r]) ∧ Good S M ans r X' ∧ Below X.heap.size X X'
set_option maxRecDepth 100000 in
set_option maxHeartbeats 8000000 in
theorem stepsGo_c (n : Nat) (hn : 1 ≤ n) (n₀ bx br : Nat) (q : QuA) (a : RwA) (Al : Option Addr) (nl cl k : Nat) (Ap : Option Addr) (np cp : Nat) (ps : List Int) (hc : chkR a.r) (hk : 1 ≤ k ∧ k ≤ 16) (hs : 0 ≤ q.src ∧ q.src < (a.r.n : Int)) (hd : q.kind = 1 → 0 ≤ q.dst ∧ q.dst < (a.r.n : Int)) (hnp : np ≤ maxLen) (hrn : a.r.n ≤ 190)
    (Good : List Msg → List Msg → Value → Bool → World → Prop)
    (I : Nat → World → Prop)
    (HDN : ∀ (X : World) (S M : List Msg) (t : Nat) (As : Option Addr) (ns cs : Nat) (Am : Option Addr) (nm cm : Nat), RunAt n₀ bx br q a Al nl cl k Ap np cp ps t S M As ns cs Am nm cm X → t ≤ 191 → (∃ t', I t' X) → Calls Tryz.prog 25 #[quVal q, .slice Al nl cl, .slice As ns cs, .slice Am nm cm] X fun e X' => DoneOk Good S M X e X')
    (hend : ∀ S ans X, ¬ Good S [] ans false X)
    (l : Nat) (Jx : World → Prop)
    (hIb : ∀ t X X', I t X → Below X.heap.size X X' → I t X') (hIr : ∀ t X X', I t X → X.grownBy X' (some br) → I t X')
    (hY : ∀ (t : Nat) (S M : List Msg) (As : Option Addr) (ns cs : Nat) (Am : Option Addr) (nm cm : Nat) (X : World) (ans : Value) (r : Bool), t ≤ 190 → I t X → RunAt n₀ bx br q a Al nl cl k Ap np cp ps (t + 1) S M As ns cs Am nm cm X → Good S M ans r X →
      YieldAt Fence.wide (n - 1) Tryz.prog l #[ans, .bool r] X fun e X' => (r = false ∧ e = .returned (.bool true) ∧ I (t + 1) X' ∧ RunAt n₀ bx br q a Al nl cl k Ap np cp ps (t + 1) S M As ns cs Am nm cm X') ∨ (r = true ∧ e = .returned (.bool false) ∧ Jx X'))
    (W : World) (S0 M0 : List Msg) (As0 : Option Addr) (ns0 cs0 : Nat) (Am0 : Option Addr) (nm0 cm0 : Nat) (h0 : RunAt n₀ bx br q a Al nl cl k Ap np cp ps 0 S0 M0 As0 ns0 cs0 Am0 nm0 cm0 W) (hI0 : I 0 W) :
    CallsIn Fence.wide n Tryz.prog 23 #[.func (.yield l) #[] #[], .pointer (some ⟨bx, 0, none⟩)] W fun e W' => (∃ v, e = .returned v) ∧ Jx W' := by
  have HC := Lib.hid hc
  have HS := Lib.hid hs
  have HD := Lib.hid hd
  have HDNH := Lib.hid HDN
  have HEND := Lib.hid hend
  have HIB := Lib.hid hIb
  have HIR := Lib.hid hIr
  have HY := Lib.hid hY
  have H0 := Lib.hid h0
  have HI0 := Lib.hid hI0
  clear hc hs hd HDN hend hIb hIr hY h0 hI0
  refine callsIn_of_wp Tryz.func23 rfl trivial ?_ rfl
  simp only [Tryz.ntmps23, List.size_toArray, List.length_cons, List.length_nil, Nat.reduceAdd, Nat.reduceSub, Array.replicate_succ, Array.replicate_zero, List.push_toArray, List.append_toArray, List.nil_append, List.cons_append]
  gi_wp2_with (fail)
  gi_loopg [3] 192 (fun g _ wr => ∃ (t : Nat) (S M : List Msg) (As : Option Addr) (ns cs : Nat) (Am : Option Addr) (nm cm : Nat), g = 192 - t ∧ t ≤ 190 ∧ (t = 0 ∨ M ≠ []) ∧ Hid (RunAt n₀ bx br q a Al nl cl k Ap np cp ps t S M As ns cs Am nm cm wr) ∧ Hid (I t wr))
  case atStart => exact ⟨0, S0, M0, As0, ns0, cs0, Am0, nm0, cm0, rfl, by omega, .inl rfl, H0, HI0⟩
  case round =>
    clear H0 HI0
    obtain ⟨t, S, M, As, ns, cs, Am, nm, cm, hg, ht, hM, HR, HI⟩ := hrel
    obtain ⟨x0, ⟨k0, k1, k2, k3, k4, k5⟩, ⟨k6, k7, k8, k9⟩, k10, k11, k12, k13, k14⟩ := HR.out.kc
    have HSTEP : Hid (∀ X, RunAt n₀ bx br q a Al nl cl k Ap np cp ps t S M As ns cs Am nm cm X → Calls Tryz.prog 24 #[.agg #[.int .i64 q.kind, .int .i64 q.src, .int .i64 q.dst, .slice q.W q.nw q.cw, .int .i64 q.radius, .int .i64 q.most], .agg #[.slice a.A1 a.n1 a.c1, .slice a.A2 a.n2 a.c2, .slice a.A3 a.n3 a.c3, .slice a.A4 a.n4 a.c4], .slice As ns cs, .slice Am nm cm, .int .i64 (k : Int), .slice Ap np cp] X fun e w' =>
        ∃ A1 k1 c1 A2 k2 c2, e = .returned (.tuple #[.slice A1 k1 c1, .slice A2 k2 c2, .int .i64 0]) ∧ w'.ownsRow X.heap.size 121 4 (.slice A1 k1 c1) k1 (mv (stepS S M)) ∧ w'.ownsRow X.heap.size 79 4 (.slice A2 k2 c2) k2 (mv (stepM (nxM q.kind q.radius a.r) S M)) ∧ Below X.heap.size X w') := fun X hX => by
      have ro := ran_ok HC.out HS.out HD.out hX.ran (by omega) (by omega) (by omega)
      have e1 := hX.s_.mail_len
      have e2 := hX.m_.mail_len
      have h1 := ro.ls
      have h2 := ro.lm
      exact step_ok q a As Am Ap ns cs nm cm np cp k S M ps X (hX.r_.more hX.n_) hX.s_ hX.m_ (hX.p_.more hX.n_) (by omega) (by omega) hnp ro.fs ro.fm HC.out (by rw [rw_n hX.r_ HC.out]; exact ro.ok k (by omega))
    gi_wp2_with (fail)
    refine wpIn_wide.2 ?_
    have HR1 : Hid (RunAt n₀ bx br q a Al nl cl k Ap np cp ps t S M As ns cs Am nm cm wr.drew) := HR.out.below (Below.refl _ _).drew
    have hbr : br < wr.heap.size := (Array.getElem?_eq_some_iff.1 HR.out.k_).1
    go_region_held3 (fun X : World => (X.cell? ⟨bx, 0, none⟩ = some (.pointer (some ⟨br, 0, none⟩)) ∧ (X.cell? ⟨br, 0, none⟩ = some (.int .i64 q.kind) ∧ X.cell? ⟨br, 1, none⟩ = some (.int .i64 q.src) ∧ X.cell? ⟨br, 2, none⟩ = some (.int .i64 q.dst) ∧ X.cell? ⟨br, 3, none⟩ = some (.slice q.W q.nw q.cw) ∧ X.cell? ⟨br, 4, none⟩ = some (.int .i64 q.radius) ∧ X.cell? ⟨br, 5, none⟩ = some (.int .i64 q.most)) ∧ (X.cell? ⟨br, 6, none⟩ = some (.slice a.A1 a.n1 a.c1) ∧ X.cell? ⟨br, 7, none⟩ = some (.slice a.A2 a.n2 a.c2) ∧ X.cell? ⟨br, 8, none⟩ = some (.slice a.A3 a.n3 a.c3) ∧ X.cell? ⟨br, 9, none⟩ = some (.slice a.A4 a.n4 a.c4)) ∧ X.cell? ⟨br, 10, none⟩ = some (.slice Al nl cl) ∧ X.cell? ⟨br, 11, none⟩ = some (.int .i64 (k : Int)) ∧ X.cell? ⟨br, 12, none⟩ = some (.slice Ap np cp) ∧ X.cell? ⟨br, 13, none⟩ = some (.slice As ns cs) ∧ X.cell? ⟨br, 14, none⟩ = some (.slice Am nm cm)))
      (first | exact HR1.out.kc | exact HR2.out.kc)
      ((first
        | (go_at_call 24; refine (HSTEP.out _ HR1.out).mono ?_; rintro e w2 ⟨A1, n1, c1, A2, n2, c2, rfl, ho1, ho2, hB2⟩; have HB2 := Lib.hid (((Below.refl wr.heap.size wr).drew).trans hB2); have HR2 := Lib.hid (HR1.out.below hB2); have HO1 := Lib.hid ho1; have HO2 := Lib.hid ho2; clear ho1 ho2 hB2)))
    have HI2 := Lib.hid (HIB.out t wr w2 HI.out HB2.out)
    have HS1 := Lib.hid (own_reads HO1.out)
    have HS2 := Lib.hid (own_reads HO2.out)
    have HE1 : Hid (∀ x, A1 = some x → x.block ≠ br) := fun x hx e => by have h : wr.heap.size ≤ x.block := (own_lt HO1.out x hx).1; omega
    have HE2 : Hid (∀ x, A2 = some x → x.block ≠ br) := fun x hx e => by have h : wr.heap.size ≤ x.block := (own_lt HO2.out x hx).1; omega
    clear HO1 HO2 x0 k0 k1 k2 k3 k4 k5 k6 k7 k8 k9 k10 k11 k12 k13 k14 HR1 HI HB2
    gi_wp2_with (fail)
    refine wpIn_wide.2 ?_
    obtain ⟨x0, -, -, -, -, -, k13, k14⟩ := HR2.out.kc
    have y13 := Lib.frozen_of_heap HR2.out.k_ 13
    have y14 := Lib.frozen_of_heap HR2.out.k_ 14
    have HR3 := Lib.hid ((HR2.out.next (cs' := c1) (cm' := c2) HC.out HS.out HD.out HS1.out HS2.out HE1.out HE2.out).below (Below.refl _ _).drew)
    have HI3 := Lib.hid (HIB.out t _ _ (HIR.out t w2 _ HI2.out (only_setCell (only_setCell (only_refl w2 (some br)) (p := ⟨br, 13, none⟩) (.inl rfl) (.slice A1 n1 c1)) (p := ⟨br, 14, none⟩) (.inl rfl) (.slice A2 n2 c2))) (Below.refl _ _).drew)
    go_region
    gi_wp2_with (fail)
    generalize ((w2.setCell ⟨br, 13, none⟩ (.slice A1 n1 c1)).setCell ⟨br, 14, none⟩ (.slice A2 n2 c2)).drew = w3 at HR3 HI3 ⊢
    have HR4 : Hid (RunAt n₀ bx br q a Al nl cl k Ap np cp ps (t + 1) (stepS S M) (stepM (nxM q.kind q.radius a.r) S M) A1 n1 c1 A2 n2 c2 w3.drew) := HR3.out.below (Below.refl _ _).drew
    have HI4 : Hid (I t w3.drew) := HIB.out t w3 _ HI3.out (Below.refl _ _).drew
    clear x0 k13 k14 y13 y14 HR2 HI2 HS1 HS2 HE1 HE2
    obtain ⟨x0, ⟨q0, q1, q2, q3, q4, q5⟩, -, l0, -, -, -, -⟩ := HR3.out.kc
    refine wpIn_region_any (by kernel_rfl) ?_
    change wpAnyIn _ _ _ _ _ _ _ _ _ (World.drew w3)
    refine wpAnyIn_take (i := 0) (v := .func (.yield l) #[] #[]) rfl rfl (by kernel_rfl) (by kernel_rfl) (by kernel_rfl) (fun _ _ _ h => h) ⟨Or.inl ⟨by rfl, by intro w'; go_simp; try with_reducible rfl⟩, fun _ => rfl⟩ ?_
    refine wpAnyIn_take (i := 9) (v := .slice A1 n1 c1) rfl rfl (by kernel_rfl) (by kernel_rfl) (by kernel_rfl) (fun _ _ _ h => h) ⟨Or.inl ⟨by rfl, by intro w'; go_simp; try with_reducible rfl⟩, fun _ => rfl⟩ ?_
    refine wpAnyIn_take (i := 10) (v := .slice A2 n2 c2) rfl rfl (by kernel_rfl) (by kernel_rfl) (by kernel_rfl) (fun _ _ _ h => h) ⟨Or.inl ⟨by rfl, by intro w'; go_simp; try with_reducible rfl⟩, fun _ => rfl⟩ ?_
    refine wpAnyIn_ready (rs := [1, 5]) (by kernel_rfl) (by simp) ?_
    refine AllReadyIn.cons rfl (fun K hK => ?_) (AllReadyIn.cons rfl (fun K hK => ?_) AllReadyIn.nil)
    · go_simp
      refine hK _ _ ?_
      clear hK K
      refine wpAnyIn_take (i := 2) (v := .pointer (some ⟨br, 0, none⟩)) rfl rfl (by kernel_rfl) (by kernel_rfl) (by kernel_rfl) (fun _ _ _ h => h) ⟨Or.inl ⟨by rfl, by intro w'; go_simp; try with_reducible rfl⟩, fun _ => rfl⟩ ?_
      refine wpAnyIn_take (i := 3) (v := .pointer (some ⟨br, 0, none⟩)) rfl rfl (by kernel_rfl) (by kernel_rfl) (by kernel_rfl) (fun _ _ _ h => h) ⟨Or.inl ⟨by rfl, by intro w'; go_simp; try with_reducible rfl⟩, fun _ => rfl⟩ ?_
      refine wpAnyIn_ready (rs := [4, 5]) (by kernel_rfl) (by simp) ?_
      refine AllReadyIn.cons rfl (fun K hK => ?_) (AllReadyIn.cons rfl (fun K hK => ?_) AllReadyIn.nil)
      · go_simp
        refine hK _ _ ?_
        clear hK K
        refine wpAnyIn_ready (rs := [5]) (by kernel_rfl) (by simp) ?_
        refine AllReadyIn.cons rfl (fun K hK => ?_) AllReadyIn.nil
        go_simp
        refine hK _ _ ?_
        clear hK K
        refine wpAnyIn_take (i := 6) (v := .pointer (some ⟨br, 0, none⟩)) rfl rfl (by kernel_rfl) (by kernel_rfl) (by kernel_rfl) (fun _ _ _ h => h) ⟨Or.inl ⟨by rfl, by intro w'; go_simp; try with_reducible rfl⟩, fun _ => rfl⟩ ?_
        refine wpAnyIn_take (i := 7) (v := .pointer (some ⟨br, 10, none⟩)) rfl rfl (by kernel_rfl) (by kernel_rfl) (by kernel_rfl) (fun _ _ _ h => h) ⟨Or.inl ⟨by rfl, by intro w'; go_simp; try with_reducible rfl⟩, fun _ => rfl⟩ ?_
        refine wpAnyIn_ready (rs := [8]) (by kernel_rfl) (by simp) ?_
        refine AllReadyIn.cons rfl (fun K hK => ?_) AllReadyIn.nil
        go_simp
        refine hK _ _ ?_
        clear hK K
        refine wpAnyIn_ready (rs := [11]) (by kernel_rfl) (by simp) ?_
        refine AllReadyIn.cons rfl (fun K hK => ?_) AllReadyIn.nil
        go_simp
        refine ⟨trivial, callsIn_wide.2 (Calls.mono (HDNH.out _ _ _ _ _ _ _ _ _ _ HR4.out (by omega) ⟨_, HI4.out⟩) ?_)⟩
        rintro e w5 ⟨ans, r, rfl, hgood, hB5⟩
        have HR5 := Lib.hid (HR4.out.below hB5)
        have HI5 := Lib.hid (HIB.out t _ _ HI4.out hB5)
        obtain ⟨f1, t1, a1, b1, hy, hR⟩ := HY.out t (stepS S M) (stepM (nxM q.kind q.radius a.r) S M) A1 n1 c1 A2 n2 c2 w5 ans r ht HI5.out HR5.out hgood
        have HG := Lib.hid hgood
        clear hgood hB5 x0 q0 q1 q2 q3 q4 q5 l0
        dsimp only
        refine hK _ _ ?_
        clear hK K
        refine wpAnyIn_take (i := 12) (v := ans) rfl rfl (by kernel_rfl) (by kernel_rfl) (by kernel_rfl) (fun _ _ _ h => h) ⟨Or.inl ⟨by rfl, by intro w'; go_simp; try with_reducible rfl⟩, fun _ => rfl⟩ ?_
        refine wpAnyIn_take (i := 13) (v := .bool r) rfl rfl (by kernel_rfl) (by kernel_rfl) (by kernel_rfl) (fun _ _ _ h => h) ⟨Or.inl ⟨by rfl, by intro w'; go_simp; try with_reducible rfl⟩, fun _ => rfl⟩ ?_
        refine wpAnyIn_ready (rs := [14]) (by kernel_rfl) (by simp) ?_
        refine AllReadyIn.cons rfl (fun K hK => ?_) AllReadyIn.nil
        go_simp
        refine hR.mono ?_
        rintro e w6 (⟨rfl, rfl, hI6, hR6⟩ | ⟨rfl, rfl, hJ6⟩)
        · have HR6 := Lib.hid hR6
          have HI6 := Lib.hid hI6
          clear hR6 hI6
          dsimp only
          refine hK _ _ ?_
          clear hK K
          refine wpAnyIn_take (i := 15) (v := .bool false) rfl rfl (by kernel_rfl) (by kernel_rfl) (by kernel_rfl) (fun _ _ _ h => h) ⟨Or.inl ⟨by rfl, by intro w'; go_simp; try with_reducible rfl⟩, fun _ => rfl⟩ ?_
          refine wpAnyIn_done (by kernel_rfl) ?_ _
          gi_wp2_with (fail)
          have hne : stepM (nxM q.kind q.radius a.r) S M ≠ [] := fun e => by
            have hg := HG.out
            rw [e] at hg
            exact HEND.out _ _ _ hg
          have ht1 : t + 1 < a.r.n := by
            rcases Nat.lt_or_ge (t + 1) a.r.n with h | h
            · exact h
            · exact absurd (ran_ends HC.out HS.out HD.out HR6.out.ran h) hne
          gi_roundg (192 - (t + 1))
          case rel => exact ⟨t + 1, _, _, A1, n1, c1, A2, n2, c2, rfl, by omega, .inr hne, HR6, HI6⟩
          case measure => omega
        · have HJ6 := Lib.hid hJ6
          clear hJ6
          dsimp only
          refine hK _ _ ?_
          clear hK K
          refine wpAnyIn_take (i := 15) (v := .bool true) rfl rfl (by kernel_rfl) (by kernel_rfl) (by kernel_rfl) (fun _ _ _ h => h) ⟨Or.inl ⟨by rfl, by intro w'; go_simp; try with_reducible rfl⟩, fun _ => rfl⟩ ?_
          refine wpAnyIn_done (by kernel_rfl) ?_ _
          gi_wp2_with (fail)
          go_returns
          exact ⟨⟨_, rfl⟩, HJ6.out⟩
      · go_simp
        refine hK _ _ ?_
        clear hK K
        refine wpAnyIn_take (i := 6) (v := .pointer (some ⟨br, 0, none⟩)) rfl rfl (by kernel_rfl) (by kernel_rfl) (by kernel_rfl) (fun _ _ _ h => h) ⟨Or.inl ⟨by rfl, by intro w'; go_simp; try with_reducible rfl⟩, fun _ => rfl⟩ ?_
        refine wpAnyIn_take (i := 7) (v := .pointer (some ⟨br, 10, none⟩)) rfl rfl (by kernel_rfl) (by kernel_rfl) (by kernel_rfl) (fun _ _ _ h => h) ⟨Or.inl ⟨by rfl, by intro w'; go_simp; try with_reducible rfl⟩, fun _ => rfl⟩ ?_
        refine wpAnyIn_ready (rs := [4, 8]) (by kernel_rfl) (by simp) ?_
        refine AllReadyIn.cons rfl (fun K hK => ?_) (AllReadyIn.cons rfl (fun K hK => ?_) AllReadyIn.nil)
        · go_simp
          refine hK _ _ ?_
          clear hK K
          refine wpAnyIn_ready (rs := [8]) (by kernel_rfl) (by simp) ?_
          refine AllReadyIn.cons rfl (fun K hK => ?_) AllReadyIn.nil
          go_simp
          refine hK _ _ ?_
          clear hK K
          refine wpAnyIn_ready (rs := [11]) (by kernel_rfl) (by simp) ?_
          refine AllReadyIn.cons rfl (fun K hK => ?_) AllReadyIn.nil
          go_simp
          refine ⟨trivial, callsIn_wide.2 (Calls.mono (HDNH.out _ _ _ _ _ _ _ _ _ _ HR4.out (by omega) ⟨_, HI4.out⟩) ?_)⟩
          rintro e w5 ⟨ans, r, rfl, hgood, hB5⟩
          have HR5 := Lib.hid (HR4.out.below hB5)
          have HI5 := Lib.hid (HIB.out t _ _ HI4.out hB5)
          obtain ⟨f1, t1, a1, b1, hy, hR⟩ := HY.out t (stepS S M) (stepM (nxM q.kind q.radius a.r) S M) A1 n1 c1 A2 n2 c2 w5 ans r ht HI5.out HR5.out hgood
          have HG := Lib.hid hgood
          clear hgood hB5 x0 q0 q1 q2 q3 q4 q5 l0
          dsimp only
          refine hK _ _ ?_
          clear hK K
          refine wpAnyIn_take (i := 12) (v := ans) rfl rfl (by kernel_rfl) (by kernel_rfl) (by kernel_rfl) (fun _ _ _ h => h) ⟨Or.inl ⟨by rfl, by intro w'; go_simp; try with_reducible rfl⟩, fun _ => rfl⟩ ?_
          refine wpAnyIn_take (i := 13) (v := .bool r) rfl rfl (by kernel_rfl) (by kernel_rfl) (by kernel_rfl) (fun _ _ _ h => h) ⟨Or.inl ⟨by rfl, by intro w'; go_simp; try with_reducible rfl⟩, fun _ => rfl⟩ ?_
          refine wpAnyIn_ready (rs := [14]) (by kernel_rfl) (by simp) ?_
          refine AllReadyIn.cons rfl (fun K hK => ?_) AllReadyIn.nil
          go_simp
          refine hR.mono ?_
          rintro e w6 (⟨rfl, rfl, hI6, hR6⟩ | ⟨rfl, rfl, hJ6⟩)
          · have HR6 := Lib.hid hR6
            have HI6 := Lib.hid hI6
            clear hR6 hI6
            dsimp only
            refine hK _ _ ?_
            clear hK K
            refine wpAnyIn_take (i := 15) (v := .bool false) rfl rfl (by kernel_rfl) (by kernel_rfl) (by kernel_rfl) (fun _ _ _ h => h) ⟨Or.inl ⟨by rfl, by intro w'; go_simp; try with_reducible rfl⟩, fun _ => rfl⟩ ?_
            refine wpAnyIn_done (by kernel_rfl) ?_ _
            gi_wp2_with (fail)
            have hne : stepM (nxM q.kind q.radius a.r) S M ≠ [] := fun e => by
              have hg := HG.out
              rw [e] at hg
              exact HEND.out _ _ _ hg
            have ht1 : t + 1 < a.r.n := by
              rcases Nat.lt_or_ge (t + 1) a.r.n with h | h
              · exact h
              · exact absurd (ran_ends HC.out HS.out HD.out HR6.out.ran h) hne
            gi_roundg (192 - (t + 1))
            case rel => exact ⟨t + 1, _, _, A1, n1, c1, A2, n2, c2, rfl, by omega, .inr hne, HR6, HI6⟩
            case measure => omega
          · have HJ6 := Lib.hid hJ6
            clear hJ6
            dsimp only
            refine hK _ _ ?_
            clear hK K
            refine wpAnyIn_take (i := 15) (v := .bool true) rfl rfl (by kernel_rfl) (by kernel_rfl) (by kernel_rfl) (fun _ _ _ h => h) ⟨Or.inl ⟨by rfl, by intro w'; go_simp; try with_reducible rfl⟩, fun _ => rfl⟩ ?_
            refine wpAnyIn_done (by kernel_rfl) ?_ _
            gi_wp2_with (fail)
            go_returns
            exact ⟨⟨_, rfl⟩, HJ6.out⟩
        · go_simp
          refine hK _ _ ?_
          clear hK K
          refine wpAnyIn_ready (rs := [4]) (by kernel_rfl) (by simp) ?_
          refine AllReadyIn.cons rfl (fun K hK => ?_) AllReadyIn.nil
          go_simp
          refine hK _ _ ?_
          clear hK K
          refine wpAnyIn_ready (rs := [11]) (by kernel_rfl) (by simp) ?_
          refine AllReadyIn.cons rfl (fun K hK => ?_) AllReadyIn.nil
          go_simp
          refine ⟨trivial, callsIn_wide.2 (Calls.mono (HDNH.out _ _ _ _ _ _ _ _ _ _ HR4.out (by omega) ⟨_, HI4.out⟩) ?_)⟩
          rintro e w5 ⟨ans, r, rfl, hgood, hB5⟩
          have HR5 := Lib.hid (HR4.out.below hB5)
          have HI5 := Lib.hid (HIB.out t _ _ HI4.out hB5)
          obtain ⟨f1, t1, a1, b1, hy, hR⟩ := HY.out t (stepS S M) (stepM (nxM q.kind q.radius a.r) S M) A1 n1 c1 A2 n2 c2 w5 ans r ht HI5.out HR5.out hgood
          have HG := Lib.hid hgood
          clear hgood hB5 x0 q0 q1 q2 q3 q4 q5 l0
          dsimp only
          refine hK _ _ ?_
          clear hK K
          refine wpAnyIn_take (i := 12) (v := ans) rfl rfl (by kernel_rfl) (by kernel_rfl) (by kernel_rfl) (fun _ _ _ h => h) ⟨Or.inl ⟨by rfl, by intro w'; go_simp; try with_reducible rfl⟩, fun _ => rfl⟩ ?_
          refine wpAnyIn_take (i := 13) (v := .bool r) rfl rfl (by kernel_rfl) (by kernel_rfl) (by kernel_rfl) (fun _ _ _ h => h) ⟨Or.inl ⟨by rfl, by intro w'; go_simp; try with_reducible rfl⟩, fun _ => rfl⟩ ?_
          refine wpAnyIn_ready (rs := [14]) (by kernel_rfl) (by simp) ?_
          refine AllReadyIn.cons rfl (fun K hK => ?_) AllReadyIn.nil
          go_simp
          refine hR.mono ?_
          rintro e w6 (⟨rfl, rfl, hI6, hR6⟩ | ⟨rfl, rfl, hJ6⟩)
          · have HR6 := Lib.hid hR6
            have HI6 := Lib.hid hI6
            clear hR6 hI6
            dsimp only
            refine hK _ _ ?_
            clear hK K
            refine wpAnyIn_take (i := 15) (v := .bool false) rfl rfl (by kernel_rfl) (by kernel_rfl) (by kernel_rfl) (fun _ _ _ h => h) ⟨Or.inl ⟨by rfl, by intro w'; go_simp; try with_reducible rfl⟩, fun _ => rfl⟩ ?_
            refine wpAnyIn_done (by kernel_rfl) ?_ _
            gi_wp2_with (fail)
            have hne : stepM (nxM q.kind q.radius a.r) S M ≠ [] := fun e => by
              have hg := HG.out
              rw [e] at hg
              exact HEND.out _ _ _ hg
            have ht1 : t + 1 < a.r.n := by
              rcases Nat.lt_or_ge (t + 1) a.r.n with h | h
              · exact h
              · exact absurd (ran_ends HC.out HS.out HD.out HR6.out.ran h) hne
            gi_roundg (192 - (t + 1))
            case rel => exact ⟨t + 1, _, _, A1, n1, c1, A2, n2, c2, rfl, by omega, .inr hne, HR6, HI6⟩
            case measure => omega
          · have HJ6 := Lib.hid hJ6
            clear hJ6
            dsimp only
            refine hK _ _ ?_
            clear hK K
            refine wpAnyIn_take (i := 15) (v := .bool true) rfl rfl (by kernel_rfl) (by kernel_rfl) (by kernel_rfl) (fun _ _ _ h => h) ⟨Or.inl ⟨by rfl, by intro w'; go_simp; try with_reducible rfl⟩, fun _ => rfl⟩ ?_
            refine wpAnyIn_done (by kernel_rfl) ?_ _
            gi_wp2_with (fail)
            go_returns
            exact ⟨⟨_, rfl⟩, HJ6.out⟩
    · go_simp
      refine hK _ _ ?_
      clear hK K
      refine wpAnyIn_take (i := 6) (v := .pointer (some ⟨br, 0, none⟩)) rfl rfl (by kernel_rfl) (by kernel_rfl) (by kernel_rfl) (fun _ _ _ h => h) ⟨Or.inl ⟨by rfl, by intro w'; go_simp; try with_reducible rfl⟩, fun _ => rfl⟩ ?_
      refine wpAnyIn_take (i := 7) (v := .pointer (some ⟨br, 10, none⟩)) rfl rfl (by kernel_rfl) (by kernel_rfl) (by kernel_rfl) (fun _ _ _ h => h) ⟨Or.inl ⟨by rfl, by intro w'; go_simp; try with_reducible rfl⟩, fun _ => rfl⟩ ?_
      refine wpAnyIn_ready (rs := [1, 8]) (by kernel_rfl) (by simp) ?_
      refine AllReadyIn.cons rfl (fun K hK => ?_) (AllReadyIn.cons rfl (fun K hK => ?_) AllReadyIn.nil)
      · go_simp
        refine hK _ _ ?_
        clear hK K
        refine wpAnyIn_take (i := 2) (v := .pointer (some ⟨br, 0, none⟩)) rfl rfl (by kernel_rfl) (by kernel_rfl) (by kernel_rfl) (fun _ _ _ h => h) ⟨Or.inl ⟨by rfl, by intro w'; go_simp; try with_reducible rfl⟩, fun _ => rfl⟩ ?_
        refine wpAnyIn_take (i := 3) (v := .pointer (some ⟨br, 0, none⟩)) rfl rfl (by kernel_rfl) (by kernel_rfl) (by kernel_rfl) (fun _ _ _ h => h) ⟨Or.inl ⟨by rfl, by intro w'; go_simp; try with_reducible rfl⟩, fun _ => rfl⟩ ?_
        refine wpAnyIn_ready (rs := [4, 8]) (by kernel_rfl) (by simp) ?_
        refine AllReadyIn.cons rfl (fun K hK => ?_) (AllReadyIn.cons rfl (fun K hK => ?_) AllReadyIn.nil)
        · go_simp
          refine hK _ _ ?_
          clear hK K
          refine wpAnyIn_ready (rs := [8]) (by kernel_rfl) (by simp) ?_
          refine AllReadyIn.cons rfl (fun K hK => ?_) AllReadyIn.nil
          go_simp
          refine hK _ _ ?_
          clear hK K
          refine wpAnyIn_ready (rs := [11]) (by kernel_rfl) (by simp) ?_
          refine AllReadyIn.cons rfl (fun K hK => ?_) AllReadyIn.nil
          go_simp
          refine ⟨trivial, callsIn_wide.2 (Calls.mono (HDNH.out _ _ _ _ _ _ _ _ _ _ HR4.out (by omega) ⟨_, HI4.out⟩) ?_)⟩
          rintro e w5 ⟨ans, r, rfl, hgood, hB5⟩
          have HR5 := Lib.hid (HR4.out.below hB5)
          have HI5 := Lib.hid (HIB.out t _ _ HI4.out hB5)
          obtain ⟨f1, t1, a1, b1, hy, hR⟩ := HY.out t (stepS S M) (stepM (nxM q.kind q.radius a.r) S M) A1 n1 c1 A2 n2 c2 w5 ans r ht HI5.out HR5.out hgood
          have HG := Lib.hid hgood
          clear hgood hB5 x0 q0 q1 q2 q3 q4 q5 l0
          dsimp only
          refine hK _ _ ?_
          clear hK K
          refine wpAnyIn_take (i := 12) (v := ans) rfl rfl (by kernel_rfl) (by kernel_rfl) (by kernel_rfl) (fun _ _ _ h => h) ⟨Or.inl ⟨by rfl, by intro w'; go_simp; try with_reducible rfl⟩, fun _ => rfl⟩ ?_
          refine wpAnyIn_take (i := 13) (v := .bool r) rfl rfl (by kernel_rfl) (by kernel_rfl) (by kernel_rfl) (fun _ _ _ h => h) ⟨Or.inl ⟨by rfl, by intro w'; go_simp; try with_reducible rfl⟩, fun _ => rfl⟩ ?_
          refine wpAnyIn_ready (rs := [14]) (by kernel_rfl) (by simp) ?_
          refine AllReadyIn.cons rfl (fun K hK => ?_) AllReadyIn.nil
          go_simp
          refine hR.mono ?_
          rintro e w6 (⟨rfl, rfl, hI6, hR6⟩ | ⟨rfl, rfl, hJ6⟩)
          · have HR6 := Lib.hid hR6
            have HI6 := Lib.hid hI6
            clear hR6 hI6
            dsimp only
            refine hK _ _ ?_
            clear hK K
            refine wpAnyIn_take (i := 15) (v := .bool false) rfl rfl (by kernel_rfl) (by kernel_rfl) (by kernel_rfl) (fun _ _ _ h => h) ⟨Or.inl ⟨by rfl, by intro w'; go_simp; try with_reducible rfl⟩, fun _ => rfl⟩ ?_
            refine wpAnyIn_done (by kernel_rfl) ?_ _
            gi_wp2_with (fail)
            have hne : stepM (nxM q.kind q.radius a.r) S M ≠ [] := fun e => by
              have hg := HG.out
              rw [e] at hg
              exact HEND.out _ _ _ hg
            have ht1 : t + 1 < a.r.n := by
              rcases Nat.lt_or_ge (t + 1) a.r.n with h | h
              · exact h
              · exact absurd (ran_ends HC.out HS.out HD.out HR6.out.ran h) hne
            gi_roundg (192 - (t + 1))
            case rel => exact ⟨t + 1, _, _, A1, n1, c1, A2, n2, c2, rfl, by omega, .inr hne, HR6, HI6⟩
            case measure => omega
          · have HJ6 := Lib.hid hJ6
            clear hJ6
            dsimp only
            refine hK _ _ ?_
            clear hK K
            refine wpAnyIn_take (i := 15) (v := .bool true) rfl rfl (by kernel_rfl) (by kernel_rfl) (by kernel_rfl) (fun _ _ _ h => h) ⟨Or.inl ⟨by rfl, by intro w'; go_simp; try with_reducible rfl⟩, fun _ => rfl⟩ ?_
            refine wpAnyIn_done (by kernel_rfl) ?_ _
            gi_wp2_with (fail)
            go_returns
            exact ⟨⟨_, rfl⟩, HJ6.out⟩
        · go_simp
          refine hK _ _ ?_
          clear hK K
          refine wpAnyIn_ready (rs := [4]) (by kernel_rfl) (by simp) ?_
          refine AllReadyIn.cons rfl (fun K hK => ?_) AllReadyIn.nil
          go_simp
          refine hK _ _ ?_
          clear hK K
          refine wpAnyIn_ready (rs := [11]) (by kernel_rfl) (by simp) ?_
          refine AllReadyIn.cons rfl (fun K hK => ?_) AllReadyIn.nil
          go_simp
          refine ⟨trivial, callsIn_wide.2 (Calls.mono (HDNH.out _ _ _ _ _ _ _ _ _ _ HR4.out (by omega) ⟨_, HI4.out⟩) ?_)⟩
          rintro e w5 ⟨ans, r, rfl, hgood, hB5⟩
          have HR5 := Lib.hid (HR4.out.below hB5)
          have HI5 := Lib.hid (HIB.out t _ _ HI4.out hB5)
          obtain ⟨f1, t1, a1, b1, hy, hR⟩ := HY.out t (stepS S M) (stepM (nxM q.kind q.radius a.r) S M) A1 n1 c1 A2 n2 c2 w5 ans r ht HI5.out HR5.out hgood
          have HG := Lib.hid hgood
          clear hgood hB5 x0 q0 q1 q2 q3 q4 q5 l0
          dsimp only
          refine hK _ _ ?_
          clear hK K
          refine wpAnyIn_take (i := 12) (v := ans) rfl rfl (by kernel_rfl) (by kernel_rfl) (by kernel_rfl) (fun _ _ _ h => h) ⟨Or.inl ⟨by rfl, by intro w'; go_simp; try with_reducible rfl⟩, fun _ => rfl⟩ ?_
          refine wpAnyIn_take (i := 13) (v := .bool r) rfl rfl (by kernel_rfl) (by kernel_rfl) (by kernel_rfl) (fun _ _ _ h => h) ⟨Or.inl ⟨by rfl, by intro w'; go_simp; try with_reducible rfl⟩, fun _ => rfl⟩ ?_
          refine wpAnyIn_ready (rs := [14]) (by kernel_rfl) (by simp) ?_
          refine AllReadyIn.cons rfl (fun K hK => ?_) AllReadyIn.nil
          go_simp
          refine hR.mono ?_
          rintro e w6 (⟨rfl, rfl, hI6, hR6⟩ | ⟨rfl, rfl, hJ6⟩)
          · have HR6 := Lib.hid hR6
            have HI6 := Lib.hid hI6
            clear hR6 hI6
            dsimp only
            refine hK _ _ ?_
            clear hK K
            refine wpAnyIn_take (i := 15) (v := .bool false) rfl rfl (by kernel_rfl) (by kernel_rfl) (by kernel_rfl) (fun _ _ _ h => h) ⟨Or.inl ⟨by rfl, by intro w'; go_simp; try with_reducible rfl⟩, fun _ => rfl⟩ ?_
            refine wpAnyIn_done (by kernel_rfl) ?_ _
            gi_wp2_with (fail)
            have hne : stepM (nxM q.kind q.radius a.r) S M ≠ [] := fun e => by
              have hg := HG.out
              rw [e] at hg
              exact HEND.out _ _ _ hg
            have ht1 : t + 1 < a.r.n := by
              rcases Nat.lt_or_ge (t + 1) a.r.n with h | h
              · exact h
              · exact absurd (ran_ends HC.out HS.out HD.out HR6.out.ran h) hne
            gi_roundg (192 - (t + 1))
            case rel => exact ⟨t + 1, _, _, A1, n1, c1, A2, n2, c2, rfl, by omega, .inr hne, HR6, HI6⟩
            case measure => omega
          · have HJ6 := Lib.hid hJ6
            clear hJ6
            dsimp only
            refine hK _ _ ?_
            clear hK K
            refine wpAnyIn_take (i := 15) (v := .bool true) rfl rfl (by kernel_rfl) (by kernel_rfl) (by kernel_rfl) (fun _ _ _ h => h) ⟨Or.inl ⟨by rfl, by intro w'; go_simp; try with_reducible rfl⟩, fun _ => rfl⟩ ?_
            refine wpAnyIn_done (by kernel_rfl) ?_ _
            gi_wp2_with (fail)
            go_returns
            exact ⟨⟨_, rfl⟩, HJ6.out⟩
      · go_simp
        refine hK _ _ ?_
        clear hK K
        refine wpAnyIn_ready (rs := [1]) (by kernel_rfl) (by simp) ?_
        refine AllReadyIn.cons rfl (fun K hK => ?_) AllReadyIn.nil
        go_simp
        refine hK _ _ ?_
        clear hK K
        refine wpAnyIn_take (i := 2) (v := .pointer (some ⟨br, 0, none⟩)) rfl rfl (by kernel_rfl) (by kernel_rfl) (by kernel_rfl) (fun _ _ _ h => h) ⟨Or.inl ⟨by rfl, by intro w'; go_simp; try with_reducible rfl⟩, fun _ => rfl⟩ ?_
        refine wpAnyIn_take (i := 3) (v := .pointer (some ⟨br, 0, none⟩)) rfl rfl (by kernel_rfl) (by kernel_rfl) (by kernel_rfl) (fun _ _ _ h => h) ⟨Or.inl ⟨by rfl, by intro w'; go_simp; try with_reducible rfl⟩, fun _ => rfl⟩ ?_
        refine wpAnyIn_ready (rs := [4]) (by kernel_rfl) (by simp) ?_
        refine AllReadyIn.cons rfl (fun K hK => ?_) AllReadyIn.nil
        go_simp
        refine hK _ _ ?_
        clear hK K
        refine wpAnyIn_ready (rs := [11]) (by kernel_rfl) (by simp) ?_
        refine AllReadyIn.cons rfl (fun K hK => ?_) AllReadyIn.nil
        go_simp
        refine ⟨trivial, callsIn_wide.2 (Calls.mono (HDNH.out _ _ _ _ _ _ _ _ _ _ HR4.out (by omega) ⟨_, HI4.out⟩) ?_)⟩
        rintro e w5 ⟨ans, r, rfl, hgood, hB5⟩
        have HR5 := Lib.hid (HR4.out.below hB5)
        have HI5 := Lib.hid (HIB.out t _ _ HI4.out hB5)
        obtain ⟨f1, t1, a1, b1, hy, hR⟩ := HY.out t (stepS S M) (stepM (nxM q.kind q.radius a.r) S M) A1 n1 c1 A2 n2 c2 w5 ans r ht HI5.out HR5.out hgood
        have HG := Lib.hid hgood
        clear hgood hB5 x0 q0 q1 q2 q3 q4 q5 l0
        dsimp only
        refine hK _ _ ?_
        clear hK K
        refine wpAnyIn_take (i := 12) (v := ans) rfl rfl (by kernel_rfl) (by kernel_rfl) (by kernel_rfl) (fun _ _ _ h => h) ⟨Or.inl ⟨by rfl, by intro w'; go_simp; try with_reducible rfl⟩, fun _ => rfl⟩ ?_
        refine wpAnyIn_take (i := 13) (v := .bool r) rfl rfl (by kernel_rfl) (by kernel_rfl) (by kernel_rfl) (fun _ _ _ h => h) ⟨Or.inl ⟨by rfl, by intro w'; go_simp; try with_reducible rfl⟩, fun _ => rfl⟩ ?_
        refine wpAnyIn_ready (rs := [14]) (by kernel_rfl) (by simp) ?_
        refine AllReadyIn.cons rfl (fun K hK => ?_) AllReadyIn.nil
        go_simp
        refine hR.mono ?_
        rintro e w6 (⟨rfl, rfl, hI6, hR6⟩ | ⟨rfl, rfl, hJ6⟩)
        · have HR6 := Lib.hid hR6
          have HI6 := Lib.hid hI6
          clear hR6 hI6
          dsimp only
          refine hK _ _ ?_
          clear hK K
          refine wpAnyIn_take (i := 15) (v := .bool false) rfl rfl (by kernel_rfl) (by kernel_rfl) (by kernel_rfl) (fun _ _ _ h => h) ⟨Or.inl ⟨by rfl, by intro w'; go_simp; try with_reducible rfl⟩, fun _ => rfl⟩ ?_
          refine wpAnyIn_done (by kernel_rfl) ?_ _
          gi_wp2_with (fail)
          have hne : stepM (nxM q.kind q.radius a.r) S M ≠ [] := fun e => by
            have hg := HG.out
            rw [e] at hg
            exact HEND.out _ _ _ hg
          have ht1 : t + 1 < a.r.n := by
            rcases Nat.lt_or_ge (t + 1) a.r.n with h | h
            · exact h
            · exact absurd (ran_ends HC.out HS.out HD.out HR6.out.ran h) hne
          gi_roundg (192 - (t + 1))
          case rel => exact ⟨t + 1, _, _, A1, n1, c1, A2, n2, c2, rfl, by omega, .inr hne, HR6, HI6⟩
          case measure => omega
        · have HJ6 := Lib.hid hJ6
          clear hJ6
          dsimp only
          refine hK _ _ ?_
          clear hK K
          refine wpAnyIn_take (i := 15) (v := .bool true) rfl rfl (by kernel_rfl) (by kernel_rfl) (by kernel_rfl) (fun _ _ _ h => h) ⟨Or.inl ⟨by rfl, by intro w'; go_simp; try with_reducible rfl⟩, fun _ => rfl⟩ ?_
          refine wpAnyIn_done (by kernel_rfl) ?_ _
          gi_wp2_with (fail)
          go_returns
          exact ⟨⟨_, rfl⟩, HJ6.out⟩
end Go.Proofs.YtpdnipabaimofaaGreat
