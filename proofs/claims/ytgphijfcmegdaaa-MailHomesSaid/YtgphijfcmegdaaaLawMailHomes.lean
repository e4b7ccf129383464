/-
  MailHomes: the walk.
-/
import Derived.Test.YtgphijfcmegdaaaMails
import Derived.Test.YtgphijfcmegdaaaMailSplit
namespace Go.Proofs.Ytgphijfcmegdaaa
open Go.RowKit

theorem flat_set {α : Type} (x : α) (r : List α) : ∀ (L : List (List α)) (i : Nat), L[i]? = some r → (L.set i (r ++ [x])).flatten.Perm (L.flatten ++ [x])
  | [], i, h => by simp at h
  | a :: L, 0, h => by
    simp at h
    subst h
    simp only [List.set_cons_zero, List.flatten_cons, List.append_assoc]
    exact List.Perm.append_left _ List.perm_append_comm
  | a :: L, i + 1, h => by
    simp only [List.set_cons_succ, List.flatten_cons, List.append_assoc]
    exact List.Perm.append_left _ (flat_set x r L i (by simpa using h))

theorem parted_perm (k : Nat) (h1 : 1 ≤ k) (h2 : k ≤ 16) : ∀ ms : List Msg, allMay ms → (parted ms k).flatten.Perm ms := by
  refine snoc_ind (fun _ => ?_) fun l x ih hm => ?_
  · rw [parted_nil]
    have : (List.replicate k ([] : List Msg)).flatten = [] := by
      rw [List.flatten_eq_nil_iff]
      intro a ha
      exact (List.mem_replicate.1 ha).2
    rw [this]
  · have hx := (home_lt (hm x (by simp)) h1 h2).2.2
    rw [parted_snoc _ _ _ hx]
    refine (flat_set x _ _ _ (parted_get _ _ _ hx)).trans ?_
    exact List.Perm.append_right _ (ih fun m hm' => hm m (by simp [hm']))

theorem flat_take_le {α : Type} (L : List (List α)) (j : Nat) : (L.take j).flatten.length ≤ L.flatten.length := by
  have h : L.flatten = (L.take j).flatten ++ (L.drop j).flatten := by rw [← List.flatten_append, List.take_append_drop]
  rw [h, List.length_append]
  omega

theorem mailHomes_far (A : Option Addr) (n c : Nat) (k : Int) (w : World) (hn : n ≤ maxLen) (h : 100 < n) :
    Calls Try.prog 8 #[.slice A n c, .int .i64 k] w fun e w' => e = .returned (.bool true) ∧ Below w.heap.size w w' := by
  go_enter Try.func8, Try.ntmps8
  go_wp2_with (fail)
  go_ret
  exact ⟨rfl, Below.refl _ _⟩

set_option maxRecDepth 100000 in
theorem mailHomes_no (A : Option Addr) (n c : Nat) (k : Int) (ms : List Msg) (w : World) (hr : Reads w w.heap.size 4 A n (mv ms)) (hn : n ≤ 100) (h : ¬ splitOk k ms) :
    Calls Try.prog 8 #[.slice A n c, .int .i64 k] w fun e w' => e = .returned (.bool true) ∧ Below w.heap.size w w' := by
  go_enter Try.func8, Try.ntmps8
  go_wp2_with (fail)
  refine (split_no A n c k ms _ hr (by unfold maxLen; omega) h).mono ?_
  rintro e w1 ⟨rfl, hB⟩
  go_wp2_with (fail)
  refine (mails_c _).mono ?_
  rintro e w2 ⟨rfl, hB2⟩
  have hb := hB.trans (hB2.mono hB.size)
  go_wp2_with (fail)
  go_ret
  exact ⟨rfl, hb⟩

set_option maxRecDepth 100000 in
set_option maxHeartbeats 8000000 in
theorem mailHomes_c (A : Option Addr) (n c k : Nat) (ms : List Msg) (w : World) (hr : Reads w w.heap.size 4 A n (mv ms)) (hn : n ≤ 100) (hk1 : 1 ≤ k) (hk2 : k ≤ 16) (hm : allMay ms) (hf : ∀ m ∈ ms, m.fits) :
    Calls Try.prog 8 #[.slice A n c, .int .i64 k] w fun e w' => e = .returned (.bool true) ∧ Below w.heap.size w w' := by
  have hl := hr.mail_len
  have HL := Lib.hid hl
  clear hl
  have hml : n ≤ maxLen := by unfold maxLen; omega
  have hperm := Lib.hid (parted_perm k hk1 hk2 ms hm)
  have hall : Hid (∀ j, ((parted ms k).take j).flatten.length ≤ n) := fun j => by
    have := flat_take_le (parted ms k) j
    have h2 := hperm.out.length_eq
    have h3 := HL.out
    omega
  go_enter Try.func8, Try.ntmps8
  go_wp2_with (fail)
  refine (split_c A n c k ms _ hk1 hk2 hr (by omega) hm).mono ?_
  rintro e w1 ⟨A8, c8, vs, rfl, ho8, hrs, hB⟩
  have HM := Lib.hid hm
  have R8 := Lib.hid (own_reads ho8)
  have RR := Lib.hid hrs.reads
  clear hm ho8 hrs
  go_wp2_with (fail)
  go_loopw [7, 8] (fun al i wr => ∃ (j a : Nat) (A7 : Option Addr) (c7 : Nat), j ≤ k ∧ i = .int .i64 j ∧ al = .slice A7 a c7 ∧ a ≤ n ∧ Hid (((parted ms k).take j).flatten.length = a) ∧
      wr.ownsRow w1.heap.size 31 4 (.slice A7 a c7) a (mv ((parted ms k).take j).flatten) ∧ Below w1.heap.size w1 wr) (fun _ i _ => k - (intOf i).toNat)
  case atStart => exact ⟨0, 0, none, 0, Nat.zero_le _, rfl, rfl, Nat.zero_le _, rfl, own_nil, Below.refl _ _⟩
  case round =>
    obtain ⟨j, a, A7, c7, hj, rfl, rfl, han, ha, ho7, hB1⟩ := hrel
    by_cases hlt : j < k
    · obtain ⟨B1, m1, d1, hv1, hm1, hr1⟩ := RR.out.at_ (i := j) (r := mv (ofHome ms k j)) (by rw [mvs, List.getElem?_map, parted_get _ _ _ hlt]; rfl)
      have hl1 := hr1.mail_len
      have hm1n : m1 ≤ n := by have := ofHome_le ms k j; have := HL.out; omega
      have HL1 := Lib.hid hl1
      have HR1 := Lib.hid hr1
      have HV1 := Lib.hid hv1
      clear hl1 hr1 hv1 hm1
      go_wp2_with (fail)
      go_loopw [9] (fun i wr => ∃ (q : Nat), q ≤ m1 ∧ i = .int .i64 q ∧ wr.ownsRow w1.heap.size 31 4 (.slice A7 a c7) a (mv ((parted ms k).take j).flatten) ∧ Below w1.heap.size w1 wr) (fun i _ => m1 - (intOf i).toNat)
      case atStart => exact ⟨0, Nat.zero_le _, rfl, ho7, hB1⟩
      case round =>
        clear ho7 hB1
        obtain ⟨q, hq, rfl, ho7, hB1⟩ := hrel
        obtain ⟨b8, o8, rfl, hc8⟩ := (R8.out.below hB1).val_at HV1.out
        by_cases hlq : q < m1
        · obtain ⟨b, o, x, rfl, hx, d0, d1', d2, d3⟩ := (HR1.out.below hB1).mail_at hlq
          have hxm : x ∈ ofHome ms k j := List.mem_of_getElem? hx.out
          have hxm2 : x ∈ ms ∧ homeN x k = j := by
            unfold ofHome at hxm
            rw [List.mem_filter] at hxm
            exact ⟨hxm.1, by simpa using hxm.2⟩
          obtain ⟨hok, hhome, hlt2⟩ := home_lt (HM.out x hxm2.1) hk1 hk2
          rw [hxm2.2] at hhome
          clear hxm hxm2 hlt2
          go_wp2_with (fail)
          refine (home_c x.v k _).mono ?_
          rintro e w4 ⟨rfl, hB4⟩
          rw [decide_eq_true hok, hhome]
          have ho4 := own_below ho7 hB4
          have hBB := hB1.trans (hB4.mono hB1.size)
          clear hok hhome ho7 hB1 hB4 d0 d1' d2 d3 hc8
          go_wp2_with (fail)
          go_roundw
          case rel => exact ⟨q + 1, by omega, by go_num, ho4, hBB⟩
          case measure => simp [intOf]; omega
        · obtain rfl : q = m1 := by omega
          have hrq := (HR1.out.below hB1).more hB1.size
          have hsz := hB1.size
          go_wp2_with (at_builtin; go_must (refine wpList_cat elMail rfl _ _ rfl ho7 rfl hrq rfl (mv_one _) (by unfold maxLen; omega) (by omega) hsz ?_; intro A4 c4 w4 ho4 p4))
          have e : ((parted ms k).take (j + 1)).flatten = ((parted ms k).take j).flatten ++ ofHome ms k j := by
            rw [List.take_add_one, parted_get _ _ _ hlt, Option.toList_some, List.flatten_append]
            simp
          have hlen : ((parted ms k).take (j + 1)).flatten.length = a + q := by rw [e, List.length_append, ha.out, HL1.out]
          have han2 : a + q ≤ n := by rw [← hlen]; exact hall.out _
          have HE := Lib.hid e
          have HLEN := Lib.hid hlen
          clear e hlen
          go_roundw
          case rel =>
            refine ⟨j + 1, a + q, A4, c4, by omega, by go_num, rfl, han2, HLEN.out, ?_, p4.below ho7 hB1 (Nat.le_refl _) hsz⟩
            rw [HE.out, mv_append]
            exact ho4
          case measure => simp [intOf]; omega
    · obtain rfl : j = k := by omega
      have ht : Hid ((parted ms j).take j = parted ms j) := List.take_of_length_le (by rw [parted_len]; exact Nat.le_refl _)
      rw [ht.out] at ho7 ha
      obtain rfl : a = n := by rw [← ha.out, hperm.out.length_eq, HL.out]
      have hb := hB.trans (hB1.mono hB.size)
      have ho7 := own_more (base := w.heap.size) ho7 hB.size
      clear hB hB1 ha
      go_wp2_with (fail)
      refine (mails_c _).mono ?_
      rintro e w4 ⟨rfl, hB4⟩
      have ho7 := own_below ho7 hB4
      have hB := hb.trans (hB4.mono hb.size)
      clear hb hB4
      go_wp2_with (fail)
      refine (combine_c A7 a c7 (parted ms j).flatten _ (own_reads ho7) (by omega) (fun m hm => hf m (hperm.out.mem_iff.1 hm))).mono ?_
      rintro e w6 ⟨A9, n9, c9, rfl, hl9, ho9, hB6⟩
      have hcs : Hid (combine (parted ms j).flatten = combine ms) := combine_same fun m => hperm.out.mem_iff
      rw [hcs.out] at ho9 hl9
      have hb := hB.trans (hB6.mono hB.size)
      have H9 := Lib.hid hl9
      clear hl9 hB hB6 ho7
      go_wp2_with (fail)
      refine (combine_c A a c ms _ ((hr.below hb).more hb.size) (by omega) hf).mono ?_
      rintro e w7 ⟨A10, n10, c10, rfl, hl10, ho10, hB7⟩
      obtain rfl : n10 = n9 := by rw [← hl10, H9.out]
      have ho9 := own_below ho9 hB7
      have hB := hb.trans (hB7.mono hb.size)
      have hm10 : n10 ≤ maxLen := Nat.le_trans (own_cap ho10).1 (own_cap ho10).2
      clear hl10 hb hB7
      go_wp2_with (fail)
      refine (same16_c A9 A10 n10 n10 _ _ _ _ _ (own_reads ho9) (own_reads ho10) hm10 hm10).mono ?_
      rintro e w8 ⟨rfl, hB8⟩
      have hT : decide (combine ms = combine ms) = true := decide_eq_true rfl
      rw [hT]
      have hb := hB.trans (hB8.mono hB.size)
      go_wp2_with (fail)
      go_ret
      exact ⟨rfl, hb⟩
end Go.Proofs.Ytgphijfcmegdaaa
