/- Plain: the sum of thirty-two bits, bit by bit and half a byte at a time. No program in sight. -/
import Derived.Test.YtjlimdiimdihfaaWd
namespace Go.Proofs.Ytjlimdiimdihfaa

def CP : Nat := 3945912366
/-- One bit taken. -/
def zN (n : Nat) : Nat := n / 2 ^^^ (if n % 2 = 1 then CP else 0)
theorem xor_half (a b : Nat) : (a ^^^ b) / 2 = a / 2 ^^^ b / 2 := by
  have := Nat.shiftRight_xor_distrib (a := a) (b := b) (i := 1)
  simpa [Nat.shiftRight_eq_div_pow] using this
theorem xor_odd (a b : Nat) : (a ^^^ b) % 2 = (a % 2 + b % 2) % 2 := by
  have h := Nat.xor_mod_two_pow (a := a) (b := b) (n := 1)
  rw [Nat.pow_one] at h
  rw [h]
  rcases Nat.mod_two_eq_zero_or_one a with ha | ha <;> rcases Nat.mod_two_eq_zero_or_one b with hb | hb <;> rw [ha, hb] <;> rfl
theorem z_xor (a b : Nat) : zN (a ^^^ b) = zN a ^^^ zN b := by
  unfold zN
  rw [xor_half, xor_odd]
  generalize CP = P
  rcases Nat.mod_two_eq_zero_or_one a with ha | ha <;> rcases Nat.mod_two_eq_zero_or_one b with hb | hb <;> rw [ha, hb] <;> simp only [Nat.reduceAdd, Nat.reduceMod, if_true, reduceIte, Nat.xor_zero, Nat.zero_ne_one]
  · rw [Nat.xor_assoc]
  · rw [Nat.xor_assoc, Nat.xor_comm (b / 2) P, ← Nat.xor_assoc]
  · rw [Nat.xor_assoc (a / 2) P, ← Nat.xor_assoc P, Nat.xor_comm P (b / 2), Nat.xor_assoc (b / 2), Nat.xor_self, Nat.xor_zero]
theorem z_lt (n : Nat) (h : n < 2 ^ 32) : zN n < 2 ^ 32 := by
  unfold zN
  refine Nat.xor_lt_two_pow (by omega) ?_
  split
  · unfold CP; omega
  · omega
theorem xor_eq_zero {a b : Nat} (h : a ^^^ b = 0) : a = b := by
  have : a ^^^ b ^^^ b = 0 ^^^ b := by rw [h]
  rw [Nat.xor_assoc, Nat.xor_self, Nat.xor_zero, Nat.zero_xor] at this
  exact this
theorem z_zero (n : Nat) (hn : n < 2 ^ 32) (h : zN n = 0) : n = 0 := by
  unfold zN at h
  split at h
  · have := xor_eq_zero h
    unfold CP at this
    omega
  · rw [Nat.xor_zero] at h
    omega
theorem z_inj (a b : Nat) (ha : a < 2 ^ 32) (hb : b < 2 ^ 32) (h : zN a = zN b) : a = b := by
  refine xor_eq_zero (z_zero _ (Nat.xor_lt_two_pow ha hb) ?_)
  rw [z_xor, h, Nat.xor_self]
def zK : Nat → Nat → Nat
  | 0, n => n
  | k + 1, n => zK k (zN n)
theorem zK_xor : ∀ (k a b : Nat), zK k (a ^^^ b) = zK k a ^^^ zK k b
  | 0, _, _ => rfl
  | k + 1, a, b => by unfold zK; rw [z_xor, zK_xor k]
theorem zK_lt : ∀ (k n : Nat), n < 2 ^ 32 → zK k n < 2 ^ 32
  | 0, _, h => h
  | k + 1, n, h => by unfold zK; exact zK_lt k _ (z_lt n h)
theorem zK_inj : ∀ (k a b : Nat), a < 2 ^ 32 → b < 2 ^ 32 → zK k a = zK k b → a = b
  | 0, _, _, _, _, h => h
  | k + 1, a, b, ha, hb, h => by
    unfold zK at h
    exact z_inj _ _ ha hb (zK_inj k _ _ (z_lt _ ha) (z_lt _ hb) h)
theorem zK_add : ∀ (j k n : Nat), zK (j + k) n = zK k (zK j n)
  | 0, k, n => by rw [Nat.zero_add]; rfl
  | j + 1, k, n => by
    rw [Nat.add_right_comm]
    show zK (j + k) (zN n) = _
    rw [zK_add j k]
    rfl
/-- Zeros at the low end: a shift. -/
theorem zK_shift : ∀ (k m : Nat), zK k (m * 2 ^ k) = m
  | 0, m => by show m * 1 = m; omega
  | k + 1, m => by
    show zK k (zN (m * 2 ^ (k + 1))) = m
    have e : m * 2 ^ (k + 1) = m * 2 ^ k * 2 := by rw [Nat.pow_succ, Nat.mul_assoc]
    have h : zN (m * 2 ^ (k + 1)) = m * 2 ^ k := by
      unfold zN
      rw [e, if_neg (by omega), Nat.xor_zero]
      omega
    rw [h, zK_shift k]
theorem split_xor (k n : Nat) : n = (n / 2 ^ k) * 2 ^ k ^^^ n % 2 ^ k := by
  have h : n = ((n >>> k) <<< k) ^^^ (n % 2 ^ k) := by
    apply Nat.eq_of_testBit_eq
    intro i
    rw [Nat.testBit_xor, Nat.testBit_shiftLeft, Nat.testBit_shiftRight, Nat.testBit_mod_two_pow]
    by_cases h : k ≤ i
    · simp [h, show ¬ i < k by omega, Nat.add_sub_cancel' h]
    · simp [h, show i < k by omega]
  rw [Nat.shiftLeft_eq, Nat.shiftRight_eq_div_pow] at h
  exact h
theorem zK_split (k n : Nat) : zK k n = n / 2 ^ k ^^^ zK k (n % 2 ^ k) := by
  have h := congrArg (zK k) (split_xor k n)
  rw [zK_xor, zK_shift] at h
  exact h
theorem xor_shr (k a b : Nat) : (a ^^^ b) / 2 ^ k = a / 2 ^ k ^^^ b / 2 ^ k := by
  have := Nat.shiftRight_xor_distrib (a := a) (b := b) (i := k)
  simpa [Nat.shiftRight_eq_div_pow] using this
/-- Half a byte taken, by the table. -/
def halfN (n c : Nat) : Nat := n / 16 ^^^ zK 4 ((n ^^^ c) % 16)
theorem halfN_eq (n c : Nat) : halfN n c = zK 4 (n ^^^ c) ^^^ c / 16 := by
  have h := zK_split 4 (n ^^^ c)
  rw [xor_shr] at h
  unfold halfN
  rw [h]
  show _ = n / 16 ^^^ c / 16 ^^^ zK 4 ((n ^^^ c) % 16) ^^^ c / 16
  rw [Nat.xor_assoc (n / 16), Nat.xor_assoc (n / 16), Nat.xor_comm (c / 16), Nat.xor_assoc, Nat.xor_self, Nat.xor_zero]
/-- A byte taken. -/
def byteN (n c : Nat) : Nat := zK 8 (n ^^^ c)
theorem byteN_half (n c : Nat) (hc : c < 256) : halfN (halfN n c) (c / 16) = byteN n c := by
  rw [halfN_eq, halfN_eq, Nat.xor_assoc, Nat.xor_self, Nat.xor_zero, show c / 16 / 16 = 0 by omega, Nat.xor_zero]
  unfold byteN
  exact (zK_add 4 4 _).symm
theorem byteN_lt (n c : Nat) (hn : n < 2 ^ 32) (hc : c < 256) : byteN n c < 2 ^ 32 := zK_lt 8 _ (Nat.xor_lt_two_pow hn (by omega))
/-- The document's bit. -/
def docN (n c : Nat) : Nat := n / 2 ^^^ (if n % 2 ≠ c % 2 then CP else 0)
theorem docN_eq (n c : Nat) : zN (n ^^^ c) = docN n c ^^^ c / 2 := by
  unfold zN docN
  rw [xor_half, xor_odd]
  have h : ((n % 2 + c % 2) % 2 = 1) = (n % 2 ≠ c % 2) := by
    apply propext
    omega
  simp only [h]
  rw [Nat.xor_assoc, Nat.xor_comm (c / 2), ← Nat.xor_assoc]
/-- k bits of the document. -/
def docK : Nat → Nat → Nat → Nat
  | 0, n, _ => n
  | k + 1, n, c => docK k (docN n c) (c / 2)
theorem docK_eq : ∀ (k n c : Nat), c < 2 ^ k → zK k (n ^^^ c) = docK k n c
  | 0, n, c, h => by
    obtain rfl : c = 0 := by simpa using h
    rw [Nat.xor_zero]
    rfl
  | k + 1, n, c, h => by
    show zK k (zN (n ^^^ c)) = docK k (docN n c) (c / 2)
    rw [docN_eq]
    exact docK_eq k _ _ (by rw [Nat.pow_succ] at h; omega)
theorem docK_byte (n c : Nat) (hc : c < 256) : docK 8 n c = byteN n c := (docK_eq 8 n c hc).symm
def sumN (n : Nat) (l : List UInt8) : Nat := l.foldl (fun n c => byteN n c.toNat) n
theorem sumN_lt (l : List UInt8) : ∀ n, n < 2 ^ 32 → sumN n l < 2 ^ 32 := by
  induction l with
  | nil => exact fun n h => h
  | cons a l ih => exact fun n h => ih _ (byteN_lt n _ h a.toNat_lt)
theorem sumN_append (n : Nat) (x y : List UInt8) : sumN n (x ++ y) = sumN (sumN n x) y := by
  unfold sumN
  rw [List.foldl_append]
theorem sumN_snoc (n : Nat) (x : List UInt8) (c : UInt8) : sumN n (x ++ [c]) = byteN (sumN n x) c.toNat := by
  rw [sumN_append]
  rfl
theorem sumN_inj (l : List UInt8) : ∀ a b, a < 2 ^ 32 → b < 2 ^ 32 → sumN a l = sumN b l → a = b := by
  induction l with
  | nil => exact fun a b _ _ h => h
  | cons c l ih =>
    intro a b ha hb h
    have h1 := ih _ _ (byteN_lt a _ ha c.toNat_lt) (byteN_lt b _ hb c.toNat_lt) h
    have h2 := zK_inj 8 _ _ (Nat.xor_lt_two_pow ha (Nat.lt_trans c.toNat_lt (by omega))) (Nat.xor_lt_two_pow hb (Nat.lt_trans c.toNat_lt (by omega))) h1
    have h3 : a ^^^ c.toNat ^^^ c.toNat = b ^^^ c.toNat ^^^ c.toNat := by rw [h2]
    rwa [Nat.xor_assoc, Nat.xor_assoc, Nat.xor_self, Nat.xor_zero, Nat.xor_zero] at h3
end Go.Proofs.Ytjlimdiimdihfaa
