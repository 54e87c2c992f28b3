/- Plain facts on numbers as bytes, seven bits at a time: what a number's bytes are, and what is read. No program in sight. -/
import Derived.Test.YtcbngjpihcemiaaWd
import Derived.Laws.BitsAllLaws
namespace Go.Proofs.Ytcbngjpihcemiaa

/-- A number's bytes. -/
def enc (n : Nat) : List UInt8 := if n < 128 then [UInt8.ofNat n] else UInt8.ofNat (n % 128 + 128) :: enc (n / 128)
termination_by n
decreasing_by omega
theorem enc_lt {n : Nat} (h : n < 128) : enc n = [UInt8.ofNat n] := by rw [enc, if_pos h]
theorem enc_ge {n : Nat} (h : ¬ n < 128) : enc n = UInt8.ofNat (n % 128 + 128) :: enc (n / 128) := by rw [enc, if_neg h]
def encs (l : List Nat) : List UInt8 := l.flatMap enc
theorem encs_nil : encs [] = [] := rfl
theorem encs_cons (n : Nat) (l : List Nat) : encs (n :: l) = enc n ++ encs l := rfl
theorem encs_append (a b : List Nat) : encs (a ++ b) = encs a ++ encs b := by simp [encs]
theorem enc_length (d : Nat) : ∀ n, n < 2 ^ (7 * (d + 1)) → (enc n).length ≤ d + 1 := by
  induction d with
  | zero => intro n h; rw [enc_lt (by simpa using h)]; simp
  | succ d ih =>
    intro n h
    by_cases hn : n < 128
    · rw [enc_lt hn]; simp
    · rw [enc_ge hn]
      have h2 : (2 : Nat) ^ (7 * (d + 1 + 1)) = 128 * 2 ^ (7 * (d + 1)) := by rw [show 7 * (d + 1 + 1) = 7 + 7 * (d + 1) from by omega, Nat.pow_add]
      have := ih (n / 128) (by omega)
      simp only [List.length_cons]
      omega
theorem enc_le (n : Nat) (h : n < 18446744073709551616) : (enc n).length ≤ 10 := enc_length 9 n (by omega)
theorem enc_pos (n : Nat) : 0 < (enc n).length := by
  rw [enc]
  split <;> simp

/-- What is read, of the bytes from place i on, if those ahead come to a: the number, how many bytes it has, the error. -/
def nextL (i a : Nat) : List UInt8 → Nat × Nat × Nat
  | [] => (0, 0, 2)
  | c :: t => if (i = 9 ∧ 1 < c.toNat) ∨ (0 < i ∧ c.toNat = 0) then (0, 0, 3) else if c.toNat < 128 then (a + c.toNat % 128 * 128 ^ i, i + 1, 0) else nextL (i + 1) (a + c.toNat % 128 * 128 ^ i) t
def next (l : List UInt8) : Nat × Nat × Nat := nextL 0 0 l
theorem nextL_nil (i a : Nat) : nextL i a [] = (0, 0, 2) := rfl
theorem nextL_cons (i a : Nat) (c : UInt8) (t : List UInt8) : nextL i a (c :: t) = if (i = 9 ∧ 1 < c.toNat) ∨ (0 < i ∧ c.toNat = 0) then (0, 0, 3) else if c.toNat < 128 then (a + c.toNat % 128 * 128 ^ i, i + 1, 0) else nextL (i + 1) (a + c.toNat % 128 * 128 ^ i) t := rfl

theorem encs_step (b : List UInt8) (l : List Nat) (k S : Nat) (hk : k < l.length) (hs : (b ++ encs l).length ≤ S) :
    ∃ N, l[k]? = some N ∧ N ∈ l ∧ encs (l.take (k + 1)) = encs (l.take k) ++ enc N ∧ (b ++ encs (l.take (k + 1))).length ≤ S := by
  refine ⟨l[k], List.getElem?_eq_getElem hk, List.getElem_mem _, by rw [List.take_succ_eq_append_getElem hk, encs_append]; simp [encs], ?_⟩
  have h : encs l = encs (l.take (k + 1)) ++ encs (l.drop (k + 1)) := by rw [← encs_append, List.take_append_drop]
  rw [h] at hs
  simp only [List.length_append] at hs ⊢
  omega
theorem enc_room {acc : List UInt8} {N : Nat} {t : List UInt8} (h : acc ++ enc N = t) : acc.length + 1 ≤ t.length := by
  have h2 := enc_pos N
  rw [← h, List.length_append]
  omega

theorem nat_or128 (x : Nat) (hx : x < 256) : x ||| 128 = x % 128 + 128 := by
  have h : ∀ y : Fin 256, y.val ||| 128 = y.val % 128 + 128 := by decide +kernel
  exact h ⟨x, hx⟩
theorem bits_more (N : Nat) : bits .or .u8 ((N : Int) % 256) 128 = (N : Int) % 128 + 128 := by
  have h1 : ((N : Int) % 256) = ((N % 256 : Nat) : Int) := by omega
  have h2 : (128 : Int) = ((128 : Nat) : Int) := rfl
  rw [h1, h2, u8_or_nat _ _ (by omega) (by omega), nat_or128 _ (by omega)]
  omega
theorem more_byte (N : Nat) : ((N : Int) % 128 + 128).toNat = N % 128 + 128 := by omega

theorem p128_8 : (128 : Nat) ^ 8 = 72057594037927936 := by decide +kernel
theorem p128_9 : (128 : Nat) ^ 9 = 9223372036854775808 := by decide +kernel
theorem pow128 (k : Nat) : (2 : Nat) ^ (7 * k) = 128 ^ k := by rw [Nat.pow_mul]
theorem room128 {N x k : Nat} (hN : N < 128 ^ k) : N + x % 128 * 128 ^ k < 128 ^ (k + 1) := by
  have h : x % 128 * 128 ^ k ≤ 127 * 128 ^ k := Nat.mul_le_mul_right _ (by omega)
  rw [Nat.pow_succ]
  omega
theorem top128 {x k : Nat} (hk : k ≤ 9) (h9 : k = 9 → x ≤ 1) : x % 128 * 128 ^ k < 18446744073709551616 := by
  rcases Nat.lt_or_ge k 9 with h | h
  · have h1 : (128 : Nat) ^ k ≤ 128 ^ 8 := Nat.pow_le_pow_right (by omega) (by omega)
    have h2 : x % 128 * 128 ^ k ≤ 127 * 128 ^ 8 := Nat.mul_le_mul (by omega) h1
    rw [p128_8] at h2
    omega
  · have e : k = 9 := by omega
    subst e
    have := h9 rfl
    have h2 : x % 128 * 128 ^ 9 ≤ 1 * 128 ^ 9 := Nat.mul_le_mul_right _ (by omega)
    rw [p128_9] at h2 ⊢
    omega
theorem low128 {N k : Nat} (hk : k ≤ 9) (hN : N < 128 ^ k) : N < 18446744073709551616 := by
  have h1 : (128 : Nat) ^ k ≤ 128 ^ 9 := Nat.pow_le_pow_right (by omega) (by omega)
  rw [p128_9] at h1
  omega
theorem wrap_u64_of {a : Nat} (h : a < 18446744073709551616) : IntKind.u64.wrap (a : Int) = (a : Int) := by
  rw [IntKind.wrap_u64]
  exact Int.emod_eq_of_lt (Int.natCast_nonneg _) (Int.ofNat_lt.2 h)
theorem bits_and127 (x : Nat) (hx : x < 256) : bits .and .u8 (x : Int) 127 = ((x % 128 : Nat) : Int) := by
  have h2 : (127 : Int) = ((127 : Nat) : Int) := rfl
  rw [h2, u8_and_nat _ _ hx (by omega), nat_mask7]
theorem bits_add {N x k : Nat} (hN : N < 128 ^ k) (hk : k ≤ 9) (hx : x < 256) (h9 : k = 9 → x ≤ 1) :
    bits .or .u64 (N : Int) (IntKind.u64.wrap (IntKind.u64.wrap (bits .and .u8 (x : Int) 127) * 2 ^ (7 * k))) = ((N + x % 128 * 128 ^ k : Nat) : Int) := by
  have ht := top128 hk h9
  have hl := low128 hk hN
  rw [bits_and127 x hx, wrap_u64_of (by omega)]
  have e : ((x % 128 : Nat) : Int) * 2 ^ (7 * k) = ((x % 128 * 128 ^ k : Nat) : Int) := by
    rw [← pow128]
    push_cast
    rfl
  rw [e, wrap_u64_of ht, u64_or_nat _ _ hl ht, Nat.or_comm, nat_join (7 * k) _ _ (by rw [pow128]; exact Nat.mul_mod_left _ _) (by rw [pow128]; exact hN)]
  congr 1
  omega

/-- What bytes come to, seven bits of each, the lowest first. -/
def low : List UInt8 → Nat
  | [] => 0
  | c :: t => c.toNat % 128 + 128 * low t
theorem low_snoc (a : List UInt8) (c : UInt8) : low (a ++ [c]) = low a + c.toNat % 128 * 128 ^ a.length := by
  induction a with
  | nil => simp [low]
  | cons d a ih =>
    simp only [List.cons_append, low, ih, List.length_cons, Nat.pow_succ]
    rw [Nat.mul_add, Nat.mul_comm (128 ^ a.length) 128, Nat.mul_left_comm]
    omega
theorem low_lt (a : List UInt8) : low a < 128 ^ a.length := by
  induction a with
  | nil => simp [low]
  | cons d a ih =>
    simp only [low, List.length_cons, Nat.pow_succ]
    omega
theorem low_drop (a : List UInt8) (k : Nat) : low (a.drop k) ≤ low a := by
  induction a generalizing k with
  | nil => simp
  | cons d a ih =>
    cases k with
    | zero => simp
    | succ k =>
      have := ih k
      simp only [List.drop_succ_cons, low]
      omega
theorem low_take_succ (l : List UInt8) (k : Nat) (h : k < l.length) : low (l.take (k + 1)) = low (l.take k) + l[k].toNat % 128 * 128 ^ k := by
  rw [List.take_succ_eq_append_getElem h, low_snoc, List.length_take, Nat.min_eq_left (by omega)]
theorem low_at (l : List UInt8) (i k : Nat) (hi : i < l.length) (hk : k ≤ i) : low ((l.take (i + 1)).drop k) = l[k].toNat % 128 + 128 * low ((l.take (i + 1)).drop (k + 1)) := by
  have h : k < (l.take (i + 1)).length := by rw [List.length_take]; omega
  rw [List.drop_eq_getElem_cons h, low]
  simp
theorem low_room {l : List UInt8} {i : Nat} (hi : i < l.length) (h9 : i ≤ 9) (hx : i = 9 → l[i].toNat ≤ 1) : low (l.take (i + 1)) < 18446744073709551616 := by
  rw [low_take_succ l i hi]
  have h1 := low_lt (l.take i)
  rw [List.length_take, Nat.min_eq_left (by omega)] at h1
  rcases Nat.lt_or_ge i 9 with h | h
  · have h2 := room128 (x := l[i].toNat) h1
    have h3 : (128 : Nat) ^ (i + 1) ≤ 128 ^ 9 := Nat.pow_le_pow_right (by omega) (by omega)
    rw [p128_9] at h3
    omega
  · have e : i = 9 := by omega
    subst e
    have := hx rfl
    rw [p128_9] at h1 ⊢
    have h2 : l[9].toNat % 128 * 9223372036854775808 ≤ 1 * 9223372036854775808 := Nat.mul_le_mul_right _ (by omega)
    omega
theorem horner {y S : Nat} (h : y % 128 + 128 * S < 18446744073709551616) : IntKind.u64.wrap (IntKind.u64.wrap (128 * (S : Int)) + (y : Int) % 128) = ((y % 128 + 128 * S : Nat) : Int) := by
  have h1 : (128 : Int) * (S : Int) = ((128 * S : Nat) : Int) := by push_cast; rfl
  have h2 : (y : Int) % 128 = ((y % 128 : Nat) : Int) := by omega
  rw [h1, h2, wrap_u64_of (by omega)]
  have h3 : ((128 * S : Nat) : Int) + ((y % 128 : Nat) : Int) = ((y % 128 + 128 * S : Nat) : Int) := by omega
  rw [h3, wrap_u64_of h]
theorem nextL_err (i a : Nat) (l : List UInt8) : (nextL i a l).2.2 = 0 ∨ ((nextL i a l).1 = 0 ∧ (nextL i a l).2.1 = 0 ∧ (nextL i a l).2.2 < 4) := by
  induction l generalizing i a with
  | nil => right; simp [nextL]
  | cons c t ih =>
    rw [nextL_cons]
    split
    · right; simp
    · split
      · left; rfl
      · exact ih _ _
/-- What is read is put as it was. -/
theorem nextL_ok (l : List UInt8) : ∀ (i a r1 r2 : Nat), i ≤ 9 → a < 128 ^ i → nextL i a l = (r1, r2, 0) →
    ∃ j, j ≤ l.length ∧ r2 = i + j ∧ r2 ≤ 10 ∧ r1 = a + low (l.take j) * 128 ^ i ∧ enc (low (l.take j)) = l.take j ∧ (0 < i → 0 < low (l.take j)) ∧ r1 < 18446744073709551616 := by
  induction l with
  | nil => intro i a r1 r2 _ _ h; simp [nextL] at h
  | cons c t ih =>
    intro i a r1 r2 hi ha h
    have hc := c.toNat_lt
    rw [nextL_cons] at h
    split at h
    · simp at h
    · rename_i hbad
      split at h
      · rename_i hlt
        simp only [Prod.mk.injEq, and_true] at h
        obtain ⟨h1, h2⟩ := h
        have hm : c.toNat % 128 = c.toNat := Nat.mod_eq_of_lt hlt
        have hl : low ((c :: t).take 1) = c.toNat := by simp [low, hm]
        refine ⟨1, by simp, by omega, by omega, by rw [hl, ← h1, hm], ?_, ?_, ?_⟩
        · rw [hl, enc_lt hlt]
          simp
        · intro h0
          rw [hl]
          omega
        · have ht := top128 (x := c.toNat) hi (by omega)
          have hl2 := low128 hi ha
          rw [← h1]
          rcases Nat.lt_or_ge i 9 with h9 | h9
          · have h3 := room128 (x := c.toNat) ha
            have h4 : (128 : Nat) ^ (i + 1) ≤ 128 ^ 9 := Nat.pow_le_pow_right (by omega) (by omega)
            rw [p128_9] at h4
            omega
          · obtain rfl : i = 9 := by omega
            rw [p128_9] at ha ⊢
            have : c.toNat % 128 * 9223372036854775808 ≤ 1 * 9223372036854775808 := Nat.mul_le_mul_right _ (by omega)
            omega
      · rename_i hge
        obtain ⟨j, hj1, hj2, hj3, hj4, hj5, hj6, hj7⟩ := ih (i + 1) _ r1 r2 (by omega) (room128 ha) h
        have hpos := hj6 (by omega)
        have hl : low ((c :: t).take (j + 1)) = c.toNat % 128 + 128 * low (t.take j) := by simp [low]
        refine ⟨j + 1, by simp; omega, by omega, hj3, ?_, ?_, ?_, hj7⟩
        · rw [hl, hj4, Nat.pow_succ, Nat.add_mul, Nat.mul_comm (128 ^ i) 128, Nat.mul_comm 128 (low _), Nat.mul_assoc, Nat.add_assoc]
        · rw [hl, enc_ge (by omega)]
          have e1 : (c.toNat % 128 + 128 * low (t.take j)) % 128 + 128 = c.toNat := by omega
          have e2 : (c.toNat % 128 + 128 * low (t.take j)) / 128 = low (t.take j) := by omega
          rw [e1, e2, hj5]
          simp
        · intro _
          rw [hl]
          omega
theorem next_ok {l : List UInt8} {r1 r2 : Nat} (h : next l = (r1, r2, 0)) : r2 ≤ l.length ∧ r2 ≤ 10 ∧ enc r1 = l.take r2 ∧ r1 < 18446744073709551616 := by
  obtain ⟨j, h1, h2, h3, h4, h5, _, h7⟩ := nextL_ok l 0 0 r1 r2 (by omega) (by simp) h
  have e : r2 = j := by omega
  subst e
  have e2 : r1 = low (l.take r2) := by simpa using h4
  exact ⟨h1, h3, by rw [e2]; exact h5, h7⟩
/-- What is left of a reader, and what is wrong. -/
structure RdS where
  l : List UInt8
  e : Nat
def RdS.number (s : RdS) (most : Nat) : Nat × RdS :=
  if s.e ≠ 0 then (0, s) else if (next s.l).2.2 ≠ 0 then (0, ⟨s.l, (next s.l).2.2⟩) else if most < (next s.l).1 then (0, ⟨s.l, 5⟩) else ((next s.l).1, ⟨s.l.drop (next s.l).2.1, 0⟩)
def RdS.bytes (s : RdS) (most : Int) : List UInt8 × RdS :=
  let r := s.number (max most 0).toNat
  if r.2.e ≠ 0 then ([], r.2) else if r.2.l.length < r.1 then ([], ⟨r.2.l, 2⟩) else (r.2.l.take r.1, ⟨r.2.l.drop r.1, 0⟩)
def RdS.fin (s : RdS) : Nat := if s.e ≠ 0 then s.e else if 0 < s.l.length then 5 else 0

end Go.Proofs.Ytcbngjpihcemiaa
