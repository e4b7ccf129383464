/-
  Words for memory: slices of texts, slices of hits.
-/
import Derived.Test.YtmnjlhifjjainaaProg
import Derived.Test.YtmnjlhifjjainaaOwn
import Derived.Test.YtmnjlhifjjainaaFrameRep
import Derived.Test.YtmnjlhifjjainaaFrameReq
namespace Go.Proofs.Ytmnjlhifjjainaa
open Go.RowKit

/-- Texts as cells. -/
def sv (l : List ByteArray) : List Value := l.map Value.string
theorem sv_get {l : List ByteArray} {k : Nat} {u : Value} (h : (sv l)[k]? = some u) : ∃ x, l[k]? = some x ∧ u = .string x := by
  unfold sv at h
  rw [List.getElem?_map] at h
  cases hl : l[k]? with
  | none => rw [hl] at h; cases h
  | some x => rw [hl] at h; exact ⟨x, rfl, by cases h; rfl⟩
theorem sv_append (l m : List ByteArray) : sv (l ++ m) = sv l ++ sv m := by simp [sv]
theorem sv_len (l : List ByteArray) : (sv l).length = l.length := by simp [sv]
theorem sv_one (l : List ByteArray) : ∀ u ∈ sv l, u.oneCell' = true := by
  intro u hu
  simp only [sv, List.mem_map] at hu
  obtain ⟨x, _, rfl⟩ := hu
  rfl

/-- Hits as cells. -/
def hc (h : Hit) : List Value := [.int .i64 h.v, .int .i64 h.d]
def hv (l : List Hit) : List Value := l.flatMap hc
theorem hc_len (h : Hit) : (hc h).length = 2 := rfl
theorem hv_len (l : List Hit) : (hv l).length = l.length * 2 := flat_len hc 2 hc_len l
theorem hv_append (l m : List Hit) : hv (l ++ m) = hv l ++ hv m := List.flatMap_append
theorem hc_one (h : Hit) : ∀ u ∈ hc h, u.oneCell' = true := by
  intro u hu
  simp only [hc, List.mem_cons, List.not_mem_nil, or_false] at hu
  rcases hu with rfl | rfl <;> rfl
theorem hv_one (l : List Hit) : ∀ u ∈ hv l, u.oneCell' = true := by
  intro u hu
  obtain ⟨m, _, hm⟩ := List.mem_flatMap.1 hu
  exact hc_one m u hm

section
variable {w w' : World} {B n : Nat} {A : Option Addr}
theorem Reads.str_at {xs : List ByteArray} {k : Nat} (h : Reads w B 1 A n (sv xs)) (hk : k < n) :
    ∃ b o x, A = some ⟨b, o, none⟩ ∧ Hid (xs[k]? = some x) ∧ w.cell? ⟨b, o + k, none⟩ = some (.string x) := by
  obtain ⟨b, o, e, _, hc⟩ := h.2 (by omega)
  have hl : xs.length = n := by have := h.1; simpa [sv] using this
  have hx : xs[k]? = some (xs[k]'(by omega)) := List.getElem?_eq_getElem (by omega)
  exact ⟨b, o, _, e, hx, hc k _ (by simp [sv, hx])⟩
theorem Reads.str_len {xs : List ByteArray} (h : Reads w B 1 A n (sv xs)) : xs.length = n := by
  have := h.1; simpa [sv] using this
theorem Reads.hit_len {xs : List Hit} (h : Reads w B 2 A n (hv xs)) : xs.length = n := by
  have := h.1; rw [hv_len] at this; omega
theorem Reads.hit_at {xs : List Hit} {k : Nat} (h : Reads w B 2 A n (hv xs)) (hk : k < n) :
    ∃ b o m, A = some ⟨b, o, none⟩ ∧ Hid (xs[k]? = some m) ∧ w.cell? ⟨b, o + k * 2, none⟩ = some (.int .i64 m.v) ∧ w.cell? ⟨b, o + k * 2 + 1, none⟩ = some (.int .i64 m.d) := by
  have hl := h.hit_len
  obtain ⟨b, o, e, _, hc'⟩ := h.2 (by omega)
  have hx : xs[k]? = some (xs[k]'(by omega)) := List.getElem?_eq_getElem (by omega)
  have hf := fun r hr => flat_get hc 2 hc_len xs k r _ hx hr
  exact ⟨b, o, _, e, hx, hc' _ _ (hf 0 (by omega)), by rw [Nat.add_assoc]; exact hc' _ _ (hf 1 (by omega))⟩
end
end Go.Proofs.Ytmnjlhifjjainaa
