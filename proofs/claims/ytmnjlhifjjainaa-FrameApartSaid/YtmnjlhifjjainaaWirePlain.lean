/-
  Plain laws of chapter 1: numbers, texts and rows as bytes. No program in sight.
-/
namespace Go.Proofs.Ytmnjlhifjjainaa

/-- A number's bytes, with fuel. -/
def numB : Nat → Nat → List UInt8
  | 0, n => [UInt8.ofNat n]
  | f + 1, n => if n < 128 then [UInt8.ofNat n] else UInt8.ofNat (128 + n % 128) :: numB f (n / 128)

/-- A number's bytes. -/
def numBytes (n : Nat) : List UInt8 := numB 4 n

def maxNum : Nat := 2147483647

/-- What digits in base 128 are worth, the lowest one first. -/
def valN : List UInt8 → Nat
  | [] => 0
  | c :: cs => c.toNat % 128 + 128 * valN cs

theorem numB_small (f n : Nat) (h : n < 128) : numB f n = [UInt8.ofNat n] := by
  cases f with
  | zero => rfl
  | succ f => simp [numB, h]

theorem numB_big (f n : Nat) (h : 128 ≤ n) : numB (f + 1) n = UInt8.ofNat (128 + n % 128) :: numB f (n / 128) := by
  simp only [numB]; rw [if_neg (by omega)]

theorem numB_len_le : ∀ (f n : Nat), (numB f n).length ≤ f + 1
  | 0, _ => by simp [numB]
  | f + 1, n => by
    simp only [numB]
    split
    · simp
    · have := numB_len_le f (n / 128); simp; omega
theorem numB_len_pos : ∀ (f n : Nat), 1 ≤ (numB f n).length
  | 0, _ => by simp [numB]
  | f + 1, n => by
    simp only [numB]
    split <;> simp

theorem numBytes_len (n : Nat) : 1 ≤ (numBytes n).length ∧ (numBytes n).length ≤ 5 := ⟨numB_len_pos 4 n, numB_len_le 4 n⟩

/-- Enough fuel is enough. -/
theorem numB_fuel : ∀ (f g n : Nat), n < 128 ^ (f + 1) → n < 128 ^ (g + 1) → numB f n = numB g n
  | 0, g, n, h, _ => by rw [numB_small g n (by simpa using h)]; rfl
  | f + 1, 0, n, _, h => by rw [numB_small (f + 1) n (by simpa using h)]; rfl
  | f + 1, g + 1, n, h1, h2 => by
    by_cases h : n < 128
    · rw [numB_small _ _ h, numB_small _ _ h]
    · rw [numB_big f n (by omega), numB_big g n (by omega)]
      congr 1
      refine numB_fuel f g (n / 128) ?_ ?_
      · rw [Nat.div_lt_iff_lt_mul (by omega)]; rw [Nat.pow_succ] at h1; exact h1
      · rw [Nat.div_lt_iff_lt_mul (by omega)]; rw [Nat.pow_succ] at h2; exact h2

theorem numBytes_big (n : Nat) (h : 128 ≤ n) (h2 : n ≤ maxNum) : numBytes n = UInt8.ofNat (128 + n % 128) :: numBytes (n / 128) := by
  unfold numBytes maxNum at *
  rw [numB_big 3 n h]
  congr 1
  refine numB_fuel 3 4 _ ?_ ?_
  · have : (128 : Nat) ^ (3 + 1) = 268435456 := by decide
    omega
  · have : (128 : Nat) ^ (4 + 1) = 34359738368 := by decide
    omega
theorem numBytes_small (n : Nat) (h : n < 128) : numBytes n = [UInt8.ofNat n] := numB_small 4 n h

theorem u8_ofNat (n : Nat) (h : n < 256) : (UInt8.ofNat n).toNat = n := by
  rw [UInt8.toNat_ofNat']; exact Nat.mod_eq_of_lt h

theorem valN_numB : ∀ (f n : Nat), n < 128 ^ (f + 1) → valN (numB f n) = n
  | 0, n, h => by
    have h' : n < 128 := by simpa using h
    simp only [numB, valN]; rw [u8_ofNat n (by omega)]; omega
  | f + 1, n, h => by
    by_cases h' : n < 128
    · rw [numB_small _ _ h']; simp only [valN]; rw [u8_ofNat n (by omega)]; omega
    · rw [numB_big f n (by omega)]
      simp only [valN]
      rw [valN_numB f (n / 128) (by rw [Nat.div_lt_iff_lt_mul (by omega)]; rw [Nat.pow_succ] at h; exact h), u8_ofNat _ (by omega)]
      omega

theorem maxNum_lt {n : Nat} (h : n ≤ maxNum) : n < 128 ^ (4 + 1) := by
  have : (128 : Nat) ^ (4 + 1) = 34359738368 := by decide
  unfold maxNum at h
  omega

theorem valN_numBytes (n : Nat) (h : n ≤ maxNum) : valN (numBytes n) = n := valN_numB 4 n (maxNum_lt h)

/-- The place of the first byte below 128, among the first ones. -/
def scan : Nat → List UInt8 → Option Nat
  | 0, _ => none
  | _ + 1, [] => none
  | f + 1, c :: cs => if c.toNat < 128 then some 0 else (scan f cs).map (· + 1)

theorem scan_some : ∀ (f : Nat) (l : List UInt8) (i : Nat) (c : UInt8), i < f → l[i]? = some c → c.toNat < 128 → (∀ j d, j < i → l[j]? = some d → 128 ≤ d.toNat) → scan f l = some i
  | 0, _, _, _, h, _, _, _ => absurd h (by omega)
  | f + 1, [], i, c, _, h, _, _ => by simp at h
  | f + 1, d :: ds, 0, c, _, h, hc, _ => by
    simp at h; subst h
    simp [scan, hc]
  | f + 1, d :: ds, i + 1, c, hi, h, hc, hj => by
    have hd : 128 ≤ d.toNat := hj 0 d (by omega) (by simp)
    simp only [scan]
    rw [if_neg (by omega), scan_some f ds i c (by omega) (by simpa using h) hc (fun j e h1 h2 => hj (j + 1) e (by omega) (by simpa using h2))]
    rfl

theorem scan_none : ∀ (f : Nat) (l : List UInt8), (∀ j d, j < f → l[j]? = some d → 128 ≤ d.toNat) → scan f l = none
  | 0, _, _ => rfl
  | f + 1, [], _ => rfl
  | f + 1, d :: ds, h => by
    have hd : 128 ≤ d.toNat := h 0 d (by omega) (by simp)
    simp only [scan]
    rw [if_neg (by omega), scan_none f ds (fun j e h1 h2 => h (j + 1) e (by omega) (by simpa using h2))]
    rfl

theorem scan_spec : ∀ (f : Nat) (l : List UInt8) (i : Nat), scan f l = some i → i < f ∧ (∃ c, l[i]? = some c ∧ c.toNat < 128) ∧ ∀ j d, j < i → l[j]? = some d → 128 ≤ d.toNat
  | 0, _, _, h => by simp [scan] at h
  | f + 1, [], i, h => by simp [scan] at h
  | f + 1, c :: cs, i, h => by
    simp only [scan] at h
    split at h
    · rename_i hc
      injection h with h; subst h
      exact ⟨by omega, ⟨c, by simp, hc⟩, fun j d hj _ => absurd hj (by omega)⟩
    · rename_i hc
      cases hs : scan f cs with
      | none => rw [hs] at h; simp at h
      | some k =>
        rw [hs] at h; simp at h; subst h
        obtain ⟨h1, ⟨d, h2, h3⟩, h4⟩ := scan_spec f cs k hs
        refine ⟨by omega, ⟨d, by simpa using h2, h3⟩, fun j e hj he => ?_⟩
        cases j with
        | zero => simp at he; subst he; omega
        | succ j => exact h4 j e (by omega) (by simpa using he)

/-- What is read of bytes: a number, and how many bytes it has. -/
def rdNum (l : List UInt8) : Option (Nat × Nat) :=
  match scan 5 l with
  | none => none
  | some i => if valN (l.take (i + 1)) ≤ maxNum ∧ numBytes (valN (l.take (i + 1))) = l.take (i + 1) then some (valN (l.take (i + 1)), i + 1) else none

theorem valN_snoc (c : UInt8) : ∀ l : List UInt8, valN (l ++ [c]) = valN l + 128 ^ l.length * (c.toNat % 128)
  | [] => by simp [valN]
  | d :: l => by
    simp only [List.cons_append, valN, List.length_cons]
    rw [valN_snoc c l, Nat.mul_add, Nat.pow_succ, ← Nat.mul_assoc, Nat.mul_comm 128 (128 ^ l.length)]
    omega

theorem valN_lt : ∀ l : List UInt8, valN l < 128 ^ l.length
  | [] => by simp [valN]
  | d :: l => by
    have := valN_lt l
    simp only [valN, List.length_cons, Nat.pow_succ]
    have := Nat.mod_lt d.toNat (show 0 < 128 by omega)
    omega

theorem numB_last : ∀ (f n : Nat), n < 128 ^ (f + 1) → 1 ≤ n → ∀ c, (numB f n).getLast? = some c → c.toNat ≠ 0
  | 0, n, h, h1, c, hc => by
    have h' : n < 128 := by simpa using h
    simp [numB] at hc
    rw [← hc, u8_ofNat n (by omega)]; omega
  | f + 1, n, h, h1, c, hc => by
    by_cases h' : n < 128
    · rw [numB_small _ _ h'] at hc
      simp at hc
      rw [← hc, u8_ofNat n (by omega)]; omega
    · rw [numB_big f n (by omega)] at hc
      have hne : numB f (n / 128) ≠ [] := fun e => by have := numB_len_pos f (n / 128); rw [e] at this; simp at this
      rw [List.getLast?_cons, List.getLast?_eq_some_getLast hne] at hc
      refine numB_last f (n / 128) (by rw [Nat.div_lt_iff_lt_mul (by omega)]; rw [Nat.pow_succ] at h; exact h) (by omega) c ?_
      rw [List.getLast?_eq_some_getLast hne]
      simpa using hc

/-- Digits that end in one that is not nought are the bytes of what they are worth. -/
theorem numB_of_digits : ∀ (p : List UInt8) (c : UInt8) (f : Nat), p.length ≤ f → c.toNat < 128 → (∀ d ∈ p, 128 ≤ d.toNat) → (p = [] ∨ c.toNat ≠ 0) → numB f (valN (p ++ [c])) = p ++ [c]
  | [], c, f, _, hc, _, _ => by
    simp only [List.nil_append, valN]
    rw [Nat.mul_zero, Nat.add_zero, Nat.mod_eq_of_lt hc, numB_small f _ hc]
    simp
  | d :: p, c, f, hf, hc, hd, h0 => by
    have h0' : c.toNat ≠ 0 := by rcases h0 with h | h; cases h; exact h
    obtain ⟨g, rfl⟩ : ∃ g, f = g + 1 := ⟨f - 1, by simp at hf; omega⟩
    have hpos : 1 ≤ valN (p ++ [c]) := by
      rw [valN_snoc, Nat.mod_eq_of_lt hc]
      have : 0 < 128 ^ p.length * c.toNat := Nat.mul_pos (Nat.pow_pos (by omega)) (by omega)
      omega
    have hdd := hd d (by simp)
    have hdl : d.toNat < 256 := d.toNat_lt
    simp only [List.cons_append, valN]
    have ih := numB_of_digits p c g (by simp at hf; omega) hc (fun e he => hd e (by simp [he])) (.inr h0')
    generalize valN (p ++ [c]) = m at hpos ih
    rw [numB_big g _ (by omega), show (d.toNat % 128 + 128 * m) / 128 = m by omega, ih, show 128 + (d.toNat % 128 + 128 * m) % 128 = d.toNat by omega]
    simp

theorem digits_bad (p : List UInt8) (c : UInt8) (hp : p ≠ []) (hc : c.toNat = 0) (hv : valN (p ++ [c]) ≤ maxNum) : numBytes (valN (p ++ [c])) ≠ p ++ [c] := by
  intro e
  by_cases h1 : 1 ≤ valN (p ++ [c])
  · exact numB_last 4 _ (maxNum_lt hv) h1 c (by rw [show numB 4 (valN (p ++ [c])) = p ++ [c] from e]; simp) hc
  · have h0 : valN (p ++ [c]) = 0 := by omega
    rw [h0, numBytes_small 0 (by omega)] at e
    have := congrArg List.length e
    simp at this
    exact hp this

/-- The program's test is the reference's. -/
theorem digits_iff (p : List UInt8) (c : UInt8) (hl : p.length ≤ 4) (hc : c.toNat < 128) (hd : ∀ d ∈ p, 128 ≤ d.toNat) :
    (valN (p ++ [c]) ≤ maxNum ∧ numBytes (valN (p ++ [c])) = p ++ [c]) ↔ (valN (p ++ [c]) ≤ maxNum ∧ ¬ (c.toNat = 0 ∧ 0 < p.length)) := by
  constructor
  · rintro ⟨h1, h2⟩
    refine ⟨h1, fun ⟨h3, h4⟩ => ?_⟩
    exact digits_bad p c (fun e => by rw [e] at h4; simp at h4) h3 h1 h2
  · rintro ⟨h1, h2⟩
    refine ⟨h1, numB_of_digits p c 4 hl hc hd ?_⟩
    by_cases hp : p = []
    · exact .inl hp
    · refine .inr (fun h0 => h2 ⟨h0, ?_⟩)
      cases p with
      | nil => exact absurd rfl hp
      | cons _ _ => simp

theorem numB_digits : ∀ (f n : Nat), n < 128 ^ (f + 1) → ∃ p c, numB f n = p ++ [c] ∧ c.toNat < 128 ∧ ∀ d ∈ p, 128 ≤ d.toNat
  | 0, n, h => ⟨[], UInt8.ofNat n, rfl, by have h' : n < 128 := by simpa using h
                                           rw [u8_ofNat n (by omega)]; exact h', fun d hd => by simp at hd⟩
  | f + 1, n, h => by
    by_cases h' : n < 128
    · exact ⟨[], UInt8.ofNat n, numB_small _ _ h', by rw [u8_ofNat n (by omega)]; exact h', fun d hd => by simp at hd⟩
    · obtain ⟨p, c, e, h1, h2⟩ := numB_digits f (n / 128) (by rw [Nat.div_lt_iff_lt_mul (by omega)]; rw [Nat.pow_succ] at h; exact h)
      refine ⟨UInt8.ofNat (128 + n % 128) :: p, c, by rw [numB_big f n (by omega), e]; rfl, h1, fun d hd => ?_⟩
      rcases List.mem_cons.1 hd with rfl | hd
      · rw [u8_ofNat _ (by omega)]; omega
      · exact h2 d hd

theorem scan_digits (p : List UInt8) (c : UInt8) (r : List UInt8) (hl : p.length ≤ 4) (hc : c.toNat < 128) (hd : ∀ d ∈ p, 128 ≤ d.toNat) : scan 5 (p ++ [c] ++ r) = some p.length := by
  refine scan_some 5 _ p.length c (by omega) (by simp) hc (fun j d hj hd' => ?_)
  rw [List.append_assoc, List.getElem?_append_left hj] at hd'
  exact hd d (List.mem_of_getElem? hd')

/-- What is laid is read as it. -/
theorem rdNum_back (n : Nat) (r : List UInt8) (h : n ≤ maxNum) : rdNum (numBytes n ++ r) = some (n, (numBytes n).length) := by
  obtain ⟨p, c, e, hc, hd⟩ := numB_digits 4 n (maxNum_lt h)
  have e' : numBytes n = p ++ [c] := e
  have hl : p.length ≤ 4 := by have := numB_len_le 4 n; rw [e] at this; simp at this; omega
  unfold rdNum
  rw [e', scan_digits p c r hl hc hd]
  have ht : (p ++ [c] ++ r).take (p.length + 1) = p ++ [c] := by
    rw [List.take_append_of_le_length (by simp)]
    exact List.take_of_length_le (by simp)
  have hv : valN (p ++ [c]) = n := by rw [← e']; exact valN_numBytes n h
  simp only [ht, hv]
  rw [if_pos ⟨h, e'⟩]
  simp

/-- What is read is laid as the same bytes. -/
theorem rdNum_same {l : List UInt8} {n k : Nat} (h : rdNum l = some (n, k)) : n ≤ maxNum ∧ numBytes n = l.take k ∧ 1 ≤ k ∧ k ≤ 5 ∧ k ≤ l.length := by
  unfold rdNum at h
  split at h
  · cases h
  · rename_i i hi
    split at h
    · rename_i hc
      cases h
      obtain ⟨h1, ⟨c, h2, _⟩, _⟩ := scan_spec 5 l i hi
      have := (List.getElem?_eq_some_iff.1 h2).1
      exact ⟨hc.1, hc.2, by omega, by omega, by omega⟩
    · cases h

end Go.Proofs.Ytmnjlhifjjainaa
