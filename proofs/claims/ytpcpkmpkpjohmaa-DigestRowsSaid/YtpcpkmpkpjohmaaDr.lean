/- The document's numbers of layer 3, walked: Times, Power, Of. -/
import Derived.Test.YtpcpkmpkpjohmaaDg
import Derived.Deep.RegionWith
namespace Go.Proofs.Ytpcpkmpkpjohmaa
open Go.RowKit

theorem add_mod (o x : Nat) (h : o + x < 18446744073709551616) : (IntKind.u64.wrap ((o : Int) + (x : Int))).tmod 2305843009213693951 = (((o + x) % PR : Nat) : Int) := by
  rw [addN, u64_of h, Int.tmod_eq_emod_of_nonneg (Int.natCast_nonneg _)]
  unfold PR
  omega
theorem mod_nat (a : Nat) : (a : Int) % 2305843009213693951 = ((a % PR : Nat) : Int) := by
  unfold PR
  omega
theorem half_u64 (m : Nat) (h : m < 18446744073709551616) : IntKind.u64.wrap ((m : Int) / 2) = ((m / 2 : Nat) : Int) := by
  have e : (m : Int) / 2 = ((m / 2 : Nat) : Int) := by omega
  rw [e, u64_of (by omega)]
theorem dbl (x m : Nat) : (x + x) * (m / 2) = x * (2 * (m / 2)) := by rw [← Nat.two_mul, Nat.mul_comm 2 x, Nat.mul_assoc]
theorem step_odd (o x m : Nat) (h : m % 2 = 1) : ((o + x) % PR + (x + x) % PR * (m / 2)) % PR = (o + x * m) % PR := by
  rw [Nat.add_mod, Nat.mod_mod, Nat.mul_mod, Nat.mod_mod, ← Nat.mul_mod, ← Nat.add_mod, dbl]
  congr 1
  conv => rhs; rw [show m = 2 * (m / 2) + 1 from by omega, Nat.mul_add, Nat.mul_one]
  omega
theorem step_even (o x m : Nat) (h : m % 2 = 0) : (o + (x + x) % PR * (m / 2)) % PR = (o + x * m) % PR := by
  rw [Nat.add_mod, Nat.mul_mod, Nat.mod_mod, ← Nat.mul_mod, ← Nat.add_mod, dbl]
  congr 1
  conv => rhs; rw [show m = 2 * (m / 2) from by omega]

set_option maxHeartbeats 1000000 in
set_option maxRecDepth 100000 in
theorem rtimes_any (a b : Nat) (w : World) (_ha : a < 18446744073709551616) (hb : b < 18446744073709551616) :
    Calls Try.prog 29 #[.int .u64 (a : Int), .int .u64 (b : Int)] w fun e w' => e = .returned (.int .u64 ((a * b % PR : Nat) : Int)) ∧ w = w' := by
  have Hb := Lib.hid hb
  have h0 := mod_nat a
  have hx0 : (0 + a % PR * b) % PR = a * b % PR := by rw [Nat.zero_add, Nat.mul_mod, Nat.mod_mod, ← Nat.mul_mod]
  have hlt0 : a % PR < PR := Nat.mod_lt _ PR_pos
  clear hb _ha
  generalize a * b % PR = R at *
  generalize a % PR = a0 at *
  have H0 := Lib.hid h0
  have Hx0 := Lib.hid hx0
  have Hlt0 := Lib.hid hlt0
  clear hx0 hlt0 h0
  go_enter Try.func29, Try.ntmps29
  go_wp2_with fail
  go_loop [0, 1, 5] (fun s0 s1 s5 => ∃ x m o : Nat, s0 = .int .u64 (x : Int) ∧ s1 = .int .u64 (m : Int) ∧ s5 = .int .u64 (o : Int) ∧ m ≤ b ∧ Hid (o < PR ∧ x < PR) ∧ Hid ((o + x * m) % PR = R)) (fun _ s1 _ => (intOf s1).toNat)
  case atStart => exact ⟨a0, b, 0, by rw [H0.out], rfl, rfl, Nat.le_refl _, ⟨PR_pos, Hlt0.out⟩, Hx0.out⟩
  case round =>
    obtain ⟨x, m, o, rfl, rfl, rfl, hm, Hox, He⟩ := hrel
    by_cases h0 : (0 : Int) < (m : Int)
    · have hh := half_u64 m (by have := Hb.out; omega)
      have hb2 : o + x < 18446744073709551616 ∧ x + x < 18446744073709551616 := by have := Hox.out; unfold PR at this; omega
      have ha1 := add_mod o x hb2.1
      have ha2 := add_mod x x hb2.2
      clear hb2
      rcases (show m % 2 = 1 ∨ m % 2 = 0 from by omega) with h2 | h2
      · have hs := step_odd o x m h2
        rw [He.out] at hs
        have hq : ((m : Int) % 2 == 1) = true := beq_iff_eq.2 (by omega)
        have hl1 : (o + x) % PR < PR := Nat.mod_lt _ PR_pos
        have hl2 : (x + x) % PR < PR := Nat.mod_lt _ PR_pos
        generalize (o + x) % PR = o1 at *
        generalize (x + x) % PR = x1 at *
        have Hs := Lib.hid hs
        have Hl : Hid (o1 < PR ∧ x1 < PR) := ⟨hl1, hl2⟩
        clear hs h2 hl1 hl2
        go_wp2
        go_round
        case rel => exact ⟨x1, m / 2, o1, rfl, by go_num, rfl, by omega, Hl, Hs⟩
        case measure => simp [intOf]; omega
      · have hs := step_even o x m h2
        rw [He.out] at hs
        have hq : ((m : Int) % 2 == 1) = false := beq_eq_false_iff_ne.2 (by omega)
        have hl2 : (x + x) % PR < PR := Nat.mod_lt _ PR_pos
        generalize (x + x) % PR = x1 at *
        have Hs := Lib.hid hs
        have Hl : Hid (o < PR ∧ x1 < PR) := ⟨Hox.out.1, hl2⟩
        clear hs h2 hl2 ha1
        go_wp2
        go_round
        case rel => exact ⟨x1, m / 2, o, rfl, by go_num, rfl, by omega, Hl, Hs⟩
        case measure => simp [intOf]; omega
    · obtain rfl : m = 0 := by omega
      have he := He.out
      rw [Nat.mul_zero, Nat.add_zero, Nat.mod_eq_of_lt Hox.out.1] at he
      subst he
      go_wp2
      go_ret
      exact ⟨rfl, rfl⟩

theorem powN_zero (b : Nat) : powN b 0 = 1 := by
  unfold powN
  rw [Nat.pow_zero]
  exact Nat.mod_eq_of_lt (by unfold PR; omega)
theorem powN_even (b n : Nat) (h : n % 2 = 0) : powN b n = powN b (n / 2) * powN b (n / 2) % PR := by
  unfold powN
  rw [← Nat.mul_mod, ← Nat.pow_add]
  congr 2
  omega
theorem powN_odd (b n : Nat) (h : n % 2 = 1) : powN b n = powN b (n / 2) * powN b (n / 2) % PR * b % PR := by
  unfold powN
  rw [← Nat.mul_mod, ← Nat.pow_add, Nat.mul_mod, Nat.mod_mod, ← Nat.mul_mod, ← Nat.pow_succ]
  congr 2
  omega

set_option maxHeartbeats 1000000 in
set_option maxRecDepth 100000 in
theorem rpower_any (d : Nat) : ∀ (n : Nat) (w : World), n < 2 ^ d → n < 18446744073709551616 →
    Calls Try.prog 30 #[.int .u64 (n : Int)] w fun e w' => e = .returned (.int .u64 (powN 1000003 n : Int)) ∧ w = w' := by
  induction d with
  | zero =>
    intro n w hn _
    obtain rfl : n = 0 := by simpa using hn
    rw [powN_zero]
    go_enter Try.func30, Try.ntmps30
    go_wp2_with fail
    go_ret
    exact ⟨rfl, rfl⟩
  | succ d ih =>
    intro n w hn hn2
    by_cases h0 : n = 0
    · subst h0
      rw [powN_zero]
      clear ih
      go_enter Try.func30, Try.ntmps30
      go_wp2_with fail
      go_ret
      exact ⟨rfl, rfl⟩
    · have hz : ((n : Int) == 0) = false := beq_eq_false_iff_ne.2 (by omega)
      have hp : (2 : Nat) ^ (d + 1) = 2 * 2 ^ d := by rw [Nat.pow_succ, Nat.mul_comm]
      have hih := ih (n / 2) w (by omega) (by omega)
      have hh := half_u64 n hn2
      have hlt := powN_lt 1000003 (n / 2)
      have ht := rtimes_any (powN 1000003 (n / 2)) (powN 1000003 (n / 2)) w (by unfold PR at hlt; omega) (by unfold PR at hlt; omega)
      have hlt2 : powN 1000003 (n / 2) * powN 1000003 (n / 2) % PR < PR := Nat.mod_lt _ PR_pos
      have ht2 := rtimes_any (powN 1000003 (n / 2) * powN 1000003 (n / 2) % PR) 1000003 w (by unfold PR at hlt2 ⊢; omega) (by omega)
      clear ih hp hn hn2 h0
      rcases (show n % 2 = 1 ∨ n % 2 = 0 from by omega) with h2 | h2
      · rw [powN_odd _ n h2]
        have hq : ((n : Int) % 2 == 1) = true := beq_iff_eq.2 (by omega)
        generalize powN 1000003 (n / 2) * powN 1000003 (n / 2) % PR = s at *
        generalize powN 1000003 (n / 2) = h at *
        generalize s * 1000003 % PR = r at *
        have Hih := Lib.hid hih
        have Ht := Lib.hid ht
        have Ht2 := Lib.hid ht2
        clear hih ht ht2 hlt hlt2 h2
        go_enter Try.func30, Try.ntmps30
        go_wp2_with fail
        refine (Hih.out).mono ?_
        rintro e w1 ⟨rfl, rfl⟩
        go_wp2_with fail
        refine (Ht.out).mono ?_
        rintro e w1 ⟨rfl, rfl⟩
        go_wp2_with fail
        refine (Ht2.out).mono ?_
        rintro e w1 ⟨rfl, rfl⟩
        go_wp2_with fail
        go_ret
        exact ⟨rfl, rfl⟩
      · rw [powN_even _ n h2]
        have hq : ((n : Int) % 2 == 1) = false := beq_eq_false_iff_ne.2 (by omega)
        generalize powN 1000003 (n / 2) * powN 1000003 (n / 2) % PR = s at *
        generalize powN 1000003 (n / 2) = h at *
        have Hih := Lib.hid hih
        have Ht := Lib.hid ht
        clear hih ht ht2 hlt hlt2 h2
        go_enter Try.func30, Try.ntmps30
        go_wp2_with fail
        refine (Hih.out).mono ?_
        rintro e w1 ⟨rfl, rfl⟩
        go_wp2_with fail
        refine (Ht.out).mono ?_
        rintro e w1 ⟨rfl, rfl⟩
        go_wp2_with fail
        go_ret
        exact ⟨rfl, rfl⟩

theorem stepN_mod (s x : Nat) : (s * 1000003 % PR + x + 1) % PR = stepN s x := by
  unfold stepN
  congr 1
theorem step_u64 (s1 x : Nat) (h1 : s1 < PR) (hx : x < 256) : (IntKind.u64.wrap (IntKind.u64.wrap ((s1 : Int) + (x : Int)) + 1)).tmod 2305843009213693951 = (((s1 + x + 1) % PR : Nat) : Int) := by
  have e : ((s1 + x : Nat) : Int) + 1 = ((s1 + x + 1 : Nat) : Int) := by omega
  rw [addN, u64_of (by unfold PR at h1; omega), e, u64_of (by unfold PR at h1; omega), Int.tmod_eq_emod_of_nonneg (Int.natCast_nonneg _)]
  unfold PR
  omega

set_option maxHeartbeats 1000000 in
set_option maxRecDepth 100000 in
theorem rof_any (A : Option Addr) (n c : Nat) (l : List UInt8) (w : World) (hl : l.length = n) (hn : n ≤ 140737488355328) (hr : Rd w w.heap.size A (vb l)) :
    Calls Try.prog 25 #[.slice A n c] w fun e w' => e = .returned (.tuple #[.int .u64 (n : Int), .int .u64 (ofN 0 l : Int)]) ∧ Below w.heap.size w w' := by
  have Hl := Lib.hid hl
  have hwn := u64_of (a := n) (by omega)
  have Hn := Lib.hid hn
  clear hl hn
  go_enter Try.func25, Try.ntmps25
  go_wp2_with fail
  go_loopw [4, 5] (fun s i wr => ∃ k : Nat, k ≤ n ∧ i = .int .i64 k ∧ s = .int .u64 (ofN 0 (l.take k) : Int) ∧ Below w.heap.size w wr) (fun _ i _ => n - (intOf i).toNat)
  case atStart => exact ⟨0, Nat.zero_le _, rfl, by simp [ofN], Below.refl _ _⟩
  case round =>
    obtain ⟨k, hk, rfl, rfl, hbr⟩ := hrel
    have hn' := Hn.out
    by_cases hlt : k < n
    · have hkl : k < l.length := by have := Hl.out; omega
      obtain ⟨b, off, rfl, hbb, hcell⟩ := hr.byte hkl
      rw [← hbr.cell (p := ⟨b, off + k, none⟩) hbb] at hcell
      have hs := ofN_take l k hkl
      have hx := l[k].toNat_lt
      have hlt1 := ofN_lt (l.take k)
      generalize l[k].toNat = x at *
      generalize ofN 0 (l.take k) = s at *
      have ht := fun W : World => rtimes_any s 1000003 W (by unfold PR at hlt1; omega) (by omega)
      have hm : s * 1000003 % PR < PR := Nat.mod_lt _ PR_pos
      have hstep := step_u64 (s * 1000003 % PR) x hm hx
      rw [stepN_mod, ← hs] at hstep
      generalize s * 1000003 % PR = s1 at *
      have Ht := Lib.hid ht
      have Hs := Lib.hid hstep
      have hx2 : (x : Int) < 256 := by omega
      clear ht hs hm hlt1 hkl hx hstep
      go_upto_region 5 with (fail)
      go_region_with (first | (go_at_call 29; refine (Ht.out _).mono ?_; rintro e w1 ⟨rfl, rfl⟩))
      all_goals
        go_wp2_with fail
        go_roundw
        case rel => exact ⟨k + 1, by omega, by go_num, by rw [Hs.out], hbr.drew⟩
        case measure => simp [intOf]; omega
    · obtain rfl : k = n := by omega
      rw [List.take_of_length_le (by rw [Hl.out]; omega)]
      go_wp2
      go_ret2
      exact ⟨rfl, hbr⟩
end Go.Proofs.Ytpcpkmpkpjohmaa
