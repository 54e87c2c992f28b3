/- Plain facts: what is read of numbers and texts that were put. -/
import Derived.Test.YtpcpkmpkpjohmaaVt
namespace Go.Proofs.Ytpcpkmpkpjohmaa
open Go.RowKit

theorem nextL_enc (d : Nat) : ∀ (i a N : Nat) (r : List UInt8), N < 128 ^ (d + 1) → i + d ≤ 9 → (i + d = 9 → N < 2 * 128 ^ d) → (0 < i → 0 < N) → nextL i a (enc N ++ r) = (a + N * 128 ^ i, i + (enc N).length, 0) := by
  induction d with
  | zero =>
    intro i a N r hN hi h9 h0
    have hN' : N < 128 := by simpa using hN
    have hb : (UInt8.ofNat N).toNat = N := by simp; omega
    rw [enc_lt hN', List.singleton_append, nextL_cons, hb, if_neg, if_pos hN', Nat.mod_eq_of_lt hN']
    · rfl
    · intro h
      rcases h with ⟨h1, h2⟩ | ⟨h1, h2⟩
      · have := h9 (by omega)
        simp at this
        omega
      · have := h0 h1
        omega
  | succ d ih =>
    intro i a N r hN hi h9 h0
    by_cases hN' : N < 128
    · have hb : (UInt8.ofNat N).toNat = N := by simp; omega
      rw [enc_lt hN', List.singleton_append, nextL_cons, hb, if_neg, if_pos hN', Nat.mod_eq_of_lt hN']
      · rfl
      · intro h
        rcases h with ⟨h1, h2⟩ | ⟨h1, h2⟩
        · omega
        · have := h0 h1
          omega
    · have hb : (UInt8.ofNat (N % 128 + 128)).toNat = N % 128 + 128 := by simp; omega
      have hp : (128 : Nat) ^ (d + 1 + 1) = 128 * 128 ^ (d + 1) := by rw [Nat.pow_succ, Nat.mul_comm]
      have hp2 : (128 : Nat) ^ (d + 1) = 128 * 128 ^ d := by rw [Nat.pow_succ, Nat.mul_comm]
      have hrec := ih (i + 1) (a + N % 128 * 128 ^ i) (N / 128) r (by omega) (by omega) (fun h => by have := h9 (by omega); omega) (fun _ => by omega)
      rw [enc_ge hN', List.cons_append, nextL_cons, hb, if_neg (by omega), if_neg (by omega), show (N % 128 + 128) % 128 = N % 128 from by omega, hrec]
      refine Prod.ext ?_ (Prod.ext ?_ rfl)
      · show a + N % 128 * 128 ^ i + N / 128 * 128 ^ (i + 1) = a + N * 128 ^ i
        have e : N * 128 ^ i = N % 128 * 128 ^ i + N / 128 * 128 ^ (i + 1) := by
          rw [Nat.pow_succ, Nat.mul_comm (128 ^ i) 128, ← Nat.mul_assoc, ← Nat.add_mul]
          congr 1
          omega
        omega
      · show i + 1 + (enc (N / 128)).length = i + (UInt8.ofNat (N % 128 + 128) :: enc (N / 128)).length
        simp only [List.length_cons]
        omega
theorem next_enc (N : Nat) (r : List UInt8) (h : N < 18446744073709551616) : next (enc N ++ r) = (N, (enc N).length, 0) := by
  have h1 : N < 128 ^ (9 + 1) := by rw [Nat.pow_succ, p128_9]; omega
  have := nextL_enc 9 0 0 N r h1 (by omega) (fun _ => by rw [p128_9]; omega) (fun h => absurd h (by omega))
  simpa [next] using this
theorem number_enc (N most : Nat) (r : List UInt8) (h : N < 18446744073709551616) (hm : N ≤ most) : RdS.number ⟨enc N ++ r, 0⟩ most = (N, ⟨r, 0⟩) := by
  have hn := next_enc N r h
  unfold RdS.number
  simp only [hn]
  rw [if_neg (by simp), if_neg (by simp), if_neg (by omega)]
  simp
theorem bytes_text (x r : List UInt8) (most : Nat) (hm : x.length ≤ most) (h : x.length < 18446744073709551616) : RdS.bytes ⟨text x ++ r, 0⟩ (most : Int) = (x, ⟨r, 0⟩) := by
  have hn : RdS.number ⟨text x ++ r, 0⟩ (max (most : Int) 0).toNat = (x.length, ⟨x ++ r, 0⟩) := by
    have e : (max (most : Int) 0).toNat = most := by omega
    rw [e, text, List.append_assoc]
    exact number_enc _ _ _ h hm
  unfold RdS.bytes
  simp only [hn]
  rw [if_neg (by simp), if_neg (by simp)]
  simp
theorem encs_drop {l : List Nat} {k N : Nat} (h : l[k]? = some N) : encs (l.drop k) = enc N ++ encs (l.drop (k + 1)) := by
  obtain ⟨hk, rfl⟩ := List.getElem?_eq_some_iff.1 h
  rw [List.drop_eq_getElem_cons hk, encs_cons]
theorem texts_drop {l : List (List UInt8)} {k : Nat} {x : List UInt8} (h : l[k]? = some x) : texts (l.drop k) = text x ++ texts (l.drop (k + 1)) := by
  obtain ⟨hk, rfl⟩ := List.getElem?_eq_some_iff.1 h
  rw [List.drop_eq_getElem_cons hk]
  rfl
theorem encs_length (l : List Nat) (h : ∀ x ∈ l, x < 18446744073709551616) : (encs l).length ≤ 10 * l.length := by
  induction l with
  | nil => simp [encs]
  | cons N l ih =>
    have := enc_le N (h N (by simp))
    have := ih fun x hx => h x (by simp [hx])
    rw [encs_cons, List.length_append, List.length_cons]
    omega
theorem texts_length (l : List (List UInt8)) (h : ∀ x ∈ l, x.length ≤ 500) : (texts l).length ≤ 510 * l.length := by
  induction l with
  | nil => simp [texts]
  | cons x l ih =>
    have hx := h x (by simp)
    have := enc_le x.length (by omega)
    have := ih fun x hx => h x (by simp [hx])
    have e : texts (x :: l) = text x ++ texts l := rfl
    rw [e, List.length_append, List.length_cons, text, List.length_append]
    omega
end Go.Proofs.Ytpcpkmpkpjohmaa
