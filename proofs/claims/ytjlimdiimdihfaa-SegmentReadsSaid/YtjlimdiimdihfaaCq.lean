/- Plain: a row of at most thirty-two bits changed, another sum. -/
import Derived.Test.YtjlimdiimdihfaaCp
namespace Go.Proofs.Ytjlimdiimdihfaa

/-- Bytes as one number, the first the lowest. -/
def valN : List UInt8 → Nat
  | [] => 0
  | a :: l => a.toNat ^^^ valN l * 256
theorem sumN_val : ∀ (l : List UInt8) (n : Nat), sumN n l = zK (8 * l.length) (n ^^^ valN l)
  | [], n => by
    show n = zK 0 (n ^^^ 0)
    rw [Nat.xor_zero]
    rfl
  | a :: l, n => by
    have h8 : zK 8 (valN l * 256) = valN l := zK_shift 8 (valN l)
    have hc : sumN n (a :: l) = sumN (byteN n a.toNat) l := rfl
    have hv : valN (a :: l) = a.toNat ^^^ valN l * 256 := rfl
    rw [hc, hv, sumN_val l, List.length_cons, Nat.mul_add, Nat.mul_one, Nat.add_comm (8 * l.length) 8, zK_add 8 (8 * l.length), ← Nat.xor_assoc, zK_xor 8 _ (valN l * 256), h8]
    unfold byteN
    rfl
theorem xor_move (a b : Nat) : a ^^^ b ^^^ a = b := by rw [Nat.xor_comm a, Nat.xor_assoc, Nat.xor_self, Nat.xor_zero]
theorem sum_diff (b c : List UInt8) (n bits i : Nat) (hlen : c.length = b.length) (hi : i ≤ 8 * b.length) (h0 : bits ≠ 0) (hb : bits < 2 ^ 32) (hv : valN c = valN b ^^^ bits * 2 ^ i) : sumN n b ≠ sumN n c := by
  rw [sumN_val, sumN_val, hlen, hv, ← Nat.xor_assoc, zK_xor _ (n ^^^ valN b)]
  intro h
  have h1 : zK (8 * b.length) (bits * 2 ^ i) = 0 := by
    have h2 : zK (8 * b.length) (n ^^^ valN b) ^^^ zK (8 * b.length) (n ^^^ valN b) = zK (8 * b.length) (n ^^^ valN b) ^^^ (zK (8 * b.length) (n ^^^ valN b) ^^^ zK (8 * b.length) (bits * 2 ^ i)) := by rw [← h]
    rw [Nat.xor_self, ← Nat.xor_assoc, Nat.xor_self, Nat.zero_xor] at h2
    exact h2.symm
  obtain ⟨d, hd⟩ : ∃ d, 8 * b.length = i + d := ⟨8 * b.length - i, by omega⟩
  rw [hd, zK_add, zK_shift] at h1
  have h3 : zK d 0 = 0 := by
    have := zK_shift d 0
    rwa [Nat.zero_mul] at this
  exact h0 (zK_inj d bits 0 hb (by omega) (by rw [h1, h3]))
theorem xor_mul256 (a b : Nat) : (a ^^^ b) * 256 = a * 256 ^^^ b * 256 := by
  have := Nat.shiftLeft_xor_distrib (a := a) (b := b) (i := 8)
  simpa [Nat.shiftLeft_eq] using this
theorem valN_set : ∀ (l : List UInt8) (j : Nat) (u : UInt8) (h : j < l.length), valN (l.set j (l[j] ^^^ u)) = valN l ^^^ u.toNat * 256 ^ j
  | a :: l, 0, u, h => by
    show (a ^^^ u).toNat ^^^ valN l * 256 = a.toNat ^^^ valN l * 256 ^^^ u.toNat * 1
    rw [UInt8.toNat_xor, Nat.mul_one, Nat.xor_assoc, Nat.xor_assoc, Nat.xor_comm u.toNat]
  | a :: l, j + 1, u, h => by
    have h' : j < l.length := by simpa using h
    show a.toNat ^^^ valN (l.set j (l[j] ^^^ u)) * 256 = a.toNat ^^^ valN l * 256 ^^^ u.toNat * 256 ^ (j + 1)
    rw [valN_set l j u h', xor_mul256, Nat.xor_assoc, Nat.pow_succ, Nat.mul_assoc]
theorem bits_take (bits k : Nat) (h : bits / 2 ^ k % 2 = 1) : bits % 2 ^ (k + 1) = bits % 2 ^ k ^^^ 2 ^ k := by
  apply Nat.eq_of_testBit_eq
  intro i
  have hk : bits.testBit k = true := by
    rw [Nat.testBit_eq_decide_div_mod_eq, h]
    rfl
  rw [Nat.testBit_xor, Nat.testBit_mod_two_pow, Nat.testBit_mod_two_pow, Nat.testBit_two_pow]
  rcases Nat.lt_trichotomy i k with hi | rfl | hi
  · simp [hi, show i < k + 1 by omega, show ¬ k = i by omega]
  · simp [hk]
  · simp [show ¬ i < k + 1 by omega, show ¬ i < k by omega, show ¬ k = i by omega]
theorem bits_skip (bits k : Nat) (h : bits / 2 ^ k % 2 = 0) : bits % 2 ^ (k + 1) = bits % 2 ^ k := by
  apply Nat.eq_of_testBit_eq
  intro i
  have hk : bits.testBit k = false := by
    rw [Nat.testBit_eq_decide_div_mod_eq, h]
    rfl
  rw [Nat.testBit_mod_two_pow, Nat.testBit_mod_two_pow]
  rcases Nat.lt_trichotomy i k with hi | rfl | hi
  · simp [hi, show i < k + 1 by omega]
  · simp [hk]
  · simp [show ¬ i < k + 1 by omega, show ¬ i < k by omega]
end Go.Proofs.Ytjlimdiimdihfaa
