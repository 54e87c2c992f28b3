/- Plain facts on numbers modulo the prime 2^61 - 1: what the program's and the document's functions of layer 3 come to. No program in sight. -/
import Derived.Test.YtpcpkmpkpjohmaaWe
import Derived.Lib.Mul64
import Derived.Laws.BitsAllLaws
namespace Go.Proofs.Ytpcpkmpkpjohmaa
open Go.RowKit

def PR : Nat := 2305843009213693951
theorem PR_eq : PR = 2305843009213693951 := rfl
theorem PR_pos : 0 < PR := by unfold PR; omega
def foldN (h l : Nat) : Nat := if 2305843009213693951 ≤ l % 2305843009213693952 + (l / 2305843009213693952 + h * 8) then l % 2305843009213693952 + (l / 2305843009213693952 + h * 8) - 2305843009213693951 else l % 2305843009213693952 + (l / 2305843009213693952 + h * 8)

theorem u64_of {a : Nat} (h : a < 18446744073709551616) : IntKind.u64.wrap (a : Int) = (a : Int) := by
  rw [IntKind.wrap_u64]
  exact Int.emod_eq_of_lt (Int.natCast_nonneg _) (Int.ofNat_lt.2 h)
theorem u64_mod (a : Nat) : IntKind.u64.wrap (a : Int) = ((a % 18446744073709551616 : Nat) : Int) := by
  rw [IntKind.wrap_u64]
  omega
theorem p61 : (2 : Nat) ^ 61 = 2305843009213693952 := by decide +kernel
theorem and61 (l : Nat) (hl : l < 18446744073709551616) : bits .and .u64 (l : Int) 2305843009213693951 = ((l % 2305843009213693952 : Nat) : Int) := by
  have h2 : (2305843009213693951 : Int) = ((2305843009213693951 : Nat) : Int) := rfl
  rw [h2, u64_and_nat _ _ hl (by omega)]
  congr 1
  have := Nat.and_two_pow_sub_one_eq_mod l 61
  rw [p61] at this
  exact this
theorem fold_sum (h l : Nat) (hh : h < 2305843009213693952) (hl : l < 18446744073709551616) (hq : h * 8 + 8 < 18446744073709551616 - 2305843009213693952) :
    IntKind.u64.wrap (bits .and .u64 (l : Int) 2305843009213693951 + bits .or .u64 ((l : Int) / 2305843009213693952) (IntKind.u64.wrap ((h : Int) * 8))) = ((l % 2305843009213693952 + (l / 2305843009213693952 + h * 8) : Nat) : Int) := by
  have e1 : (h : Int) * 8 = ((h * 8 : Nat) : Int) := by push_cast; rfl
  have e2 : (l : Int) / 2305843009213693952 = ((l / 2305843009213693952 : Nat) : Int) := by omega
  have h3 : l / 2305843009213693952 < 8 := by omega
  have e3 : l / 2305843009213693952 ||| h * 8 = l / 2305843009213693952 + h * 8 := by
    rw [Nat.or_comm, nat_join 3 (h * 8) _ (by omega) (by omega)]
    omega
  rw [and61 l hl, e1, e2, u64_of (by omega), u64_or_nat _ _ (by omega) (by omega), e3]
  have e4 : ((l % 2305843009213693952 : Nat) : Int) + ((l / 2305843009213693952 + h * 8 : Nat) : Int) = ((l % 2305843009213693952 + (l / 2305843009213693952 + h * 8) : Nat) : Int) := by omega
  rw [e4, u64_of (by omega)]
theorem fold_sub {q : Nat} (h : 2305843009213693951 ≤ q) (hq : q < 18446744073709551616) : IntKind.u64.wrap ((q : Int) - 2305843009213693951) = ((q - 2305843009213693951 : Nat) : Int) := by
  have e : (q : Int) - 2305843009213693951 = ((q - 2305843009213693951 : Nat) : Int) := by omega
  rw [e, u64_of (by omega)]

/-- A product, or a sum, folded. -/
theorem foldN_small (l : Nat) (hl : l < 18446744073709551616) : foldN 0 l = l % PR := by
  unfold foldN PR
  split <;> omega
theorem foldN_mul (a b : Nat) (ha : a < PR) (hb : b < PR) : foldN (a * b / 18446744073709551616) (a * b % 18446744073709551616) = a * b % PR ∧ a * b / 18446744073709551616 * 8 + 8 < 18446744073709551616 - 2305843009213693952 := by
  unfold PR at *
  have hm : a * b ≤ 2305843009213693950 * 2305843009213693950 := Nat.mul_le_mul (by omega) (by omega)
  generalize a * b = m at *
  unfold foldN
  refine ⟨?_, by omega⟩
  split <;> omega

/-- A power of the base, modulo the prime. -/
def powN (by_ n : Nat) : Nat := by_ ^ n % PR
theorem powN_lt (b n : Nat) : powN b n < PR := Nat.mod_lt _ PR_pos

theorem pow_step_odd (o b m : Nat) (h : m % 2 = 1) : (o * b % PR) * (b * b % PR) ^ (m / 2) % PR = o * b ^ m % PR := by
  have e : b ^ m = b * (b * b) ^ (m / 2) := by
    rw [← Nat.pow_two, ← Nat.pow_mul]
    conv => lhs; rw [show m = 2 * (m / 2) + 1 from by omega]
    rw [Nat.pow_succ, Nat.mul_comm]
  rw [e, ← Nat.mul_assoc]
  rw [Nat.mul_mod, Nat.pow_mod, Nat.mod_mod, Nat.mod_mod, ← Nat.pow_mod, ← Nat.mul_mod]
theorem pow_step_even (o b m : Nat) (h : m % 2 = 0) : o * (b * b % PR) ^ (m / 2) % PR = o * b ^ m % PR := by
  have e : b ^ m = (b * b) ^ (m / 2) := by
    rw [← Nat.pow_two, ← Nat.pow_mul]
    conv => lhs; rw [show m = 2 * (m / 2) from by omega]
  rw [e, Nat.mul_mod, Nat.pow_mod, Nat.mod_mod, ← Nat.pow_mod, ← Nat.mul_mod]
theorem and1 (m : Nat) (hm : m < 18446744073709551616) : bits .and .u64 (m : Int) 1 = ((m % 2 : Nat) : Int) := by
  have h2 : (1 : Int) = ((1 : Nat) : Int) := rfl
  rw [h2, u64_and_nat _ _ hm (by omega), nat_mask1]
/-- What bytes come to. -/
def stepN (s c : Nat) : Nat := (s * 1000003 % PR + (c + 1)) % PR
theorem stepN_lt (s c : Nat) : stepN s c < PR := by unfold stepN; exact Nat.mod_lt _ PR_pos
def ofN (s : Nat) (l : List UInt8) : Nat := l.foldl (fun s c => stepN s c.toNat) s
theorem ofN_snoc (s : Nat) (l : List UInt8) (c : UInt8) : ofN s (l ++ [c]) = stepN (ofN s l) c.toNat := by
  unfold ofN
  rw [List.foldl_append, List.foldl_cons, List.foldl_nil]
theorem ofN_lt (l : List UInt8) : ofN 0 l < PR := by
  rcases List.eq_nil_or_concat l with rfl | ⟨l', c, rfl⟩
  · exact PR_pos
  · rw [List.concat_eq_append, ofN_snoc]
    exact stepN_lt _ _
theorem ofN_take (l : List UInt8) (k : Nat) (h : k < l.length) : ofN 0 (l.take (k + 1)) = stepN (ofN 0 (l.take k)) l[k].toNat := by
  rw [List.take_succ_eq_append_getElem h, ofN_snoc]
end Go.Proofs.Ytpcpkmpkpjohmaa
