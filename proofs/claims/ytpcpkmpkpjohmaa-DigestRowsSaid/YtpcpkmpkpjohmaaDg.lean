/- The numbers of package digest, walked: fold, bits.Mul64, times, plus, power. -/
import Derived.Test.YtpcpkmpkpjohmaaChecked
import Derived.Test.YtpcpkmpkpjohmaaDp
import Derived.RegionTactic
import Derived.Deep.DeepCutAuto
namespace Go.Proofs.Ytpcpkmpkpjohmaa
open Go.RowKit

theorem mask32 (a : Nat) (ha : a < 18446744073709551616) : bits .and .u64 (a : Int) 4294967295 = ((a % 4294967296 : Nat) : Int) := by
  have h2 : (4294967295 : Int) = ((4294967295 : Nat) : Int) := rfl
  rw [h2, u64_and_nat _ _ ha (by omega)]
  congr 1
  exact Nat.and_two_pow_sub_one_eq_mod a 32
theorem div32 (a : Nat) : (a : Int) / 4294967296 = ((a / 4294967296 : Nat) : Int) := by omega
theorem mulN (a b : Nat) : (a : Int) * (b : Int) = ((a * b : Nat) : Int) := (Int.natCast_mul a b).symm
theorem addN (a b : Nat) : (a : Int) + (b : Int) = ((a + b : Nat) : Int) := (Int.natCast_add a b).symm

set_option maxRecDepth 100000 in
theorem fold_any (h l : Nat) (w : World) (hh : h < 2305843009213693952) (hl : l < 18446744073709551616) (hq : h * 8 + 8 < 18446744073709551616 - 2305843009213693952) :
    Calls Try.prog 55 #[.int .u64 (h : Int), .int .u64 (l : Int)] w fun e w' => e = .returned (.int .u64 (foldN h l : Int)) ∧ w = w' := by
  have hsum := fold_sum h l hh hl hq
  have hlt : l % 2305843009213693952 + (l / 2305843009213693952 + h * 8) < 18446744073709551616 := by omega
  clear hh hl hq
  unfold foldN
  generalize l % 2305843009213693952 + (l / 2305843009213693952 + h * 8) = q at *
  by_cases hP : 2305843009213693951 ≤ q
  · rw [if_pos hP]
    have hsub := fold_sub hP hlt
    have hP' : (2305843009213693951 : Int) ≤ (q : Int) := by omega
    generalize q - 2305843009213693951 = r at *
    clear hP hlt
    go_enter Try.func55, Try.ntmps55
    go_wp2
    go_ret
    exact ⟨rfl, rfl⟩
  · rw [if_neg hP]
    have hP' : ¬ (2305843009213693951 : Int) ≤ (q : Int) := by omega
    clear hP hlt
    go_enter Try.func55, Try.ntmps55
    go_wp2
    go_ret
    exact ⟨rfl, rfl⟩

set_option maxHeartbeats 1000000 in
set_option maxRecDepth 100000 in
theorem mul_any (x y : Nat) (w : World) (hx : x < 18446744073709551616) (hy : y < 18446744073709551616) :
    Calls Try.prog 56 #[.int .u64 (x : Int), .int .u64 (y : Int)] w fun e w' => e = .returned (.tuple #[.int .u64 ((x * y / 18446744073709551616 : Nat) : Int), .int .u64 ((x * y % 18446744073709551616 : Nat) : Int)]) ∧ w = w' := by
  obtain ⟨bd, bt, bw, hhi⟩ := Lib.mul64_hi x y hx hy
  have ba := Lib.half_mul_le (a := x / 4294967296) (b := y / 4294967296) (by omega) (by omega)
  have bb := Lib.half_mul_le (a := x / 4294967296) (b := y % 4294967296) (by omega) (by omega)
  have bc := Lib.half_mul_le (a := x % 4294967296) (b := y / 4294967296) (by omega) (by omega)
  have ba' : x / 4294967296 * (y / 4294967296) < 18446744073709551616 := by omega
  have bb' : x / 4294967296 * (y % 4294967296) < 18446744073709551616 := by omega
  have bc' : x % 4294967296 * (y / 4294967296) < 18446744073709551616 := by omega
  have hxy : x * y / 18446744073709551616 < 18446744073709551616 := Nat.div_lt_of_lt_mul (Nat.mul_lt_mul'' hx hy)
  have bh : x / 4294967296 * (y / 4294967296) + (x / 4294967296 * (y % 4294967296) + x % 4294967296 * (y % 4294967296) / 4294967296) / 4294967296 + ((x / 4294967296 * (y % 4294967296) + x % 4294967296 * (y % 4294967296) / 4294967296) % 4294967296 + x % 4294967296 * (y / 4294967296)) / 4294967296 < 18446744073709551616 := by rw [hhi]; exact hxy
  have bh1 : x / 4294967296 * (y / 4294967296) + (x / 4294967296 * (y % 4294967296) + x % 4294967296 * (y % 4294967296) / 4294967296) / 4294967296 < 18446744073709551616 := by omega
  have H := Lib.hid (And.intro hx (And.intro hy (And.intro bd (And.intro bt (And.intro bw (And.intro hhi (And.intro ba' (And.intro bb' (And.intro bc' (And.intro bh bh1))))))))))
  clear hx hy bd bt bw hhi ba bb bc ba' bb' bc' hxy bh bh1
  go_enter Try.func56, Try.ntmps56
  go_wp2
  obtain ⟨hx, hy, bd, bt, bw, hhi, ba', bb', bc', bh, bh1⟩ := H.out
  simp only [mask32 x hx, mask32 y hy, div32, mulN, addN, u64_of bd, u64_of bb', u64_of bt, mask32 _ bt, u64_of bc', u64_of bw, u64_of ba', u64_of bh1, u64_of bh, u64_mod (x * y)]
  rw [hhi]
  go_ret2
  exact ⟨rfl, rfl⟩

theorem times_any (a b : Nat) (w : World) (ha : a < PR) (hb : b < PR) :
    Calls Try.prog 49 #[.int .u64 (a : Int), .int .u64 (b : Int)] w fun e w' => e = .returned (.int .u64 ((a * b % PR : Nat) : Int)) ∧ w = w' := by
  obtain ⟨h1, h2⟩ := foldN_mul a b ha hb
  have hm := mul_any a b w (by unfold PR at ha; omega) (by unfold PR at hb; omega)
  have hf := fold_any (a * b / 18446744073709551616) (a * b % 18446744073709551616) w (by omega) (by omega) h2
  rw [h1] at hf
  clear h1 h2 ha hb
  generalize a * b / 18446744073709551616 = hi at *
  generalize a * b % 18446744073709551616 = lo at *
  generalize a * b % PR = r at *
  have Hm := Lib.hid hm
  have Hf := Lib.hid hf
  clear hm hf
  go_enter Try.func49, Try.ntmps49
  go_wp2_with fail
  refine (Hm.out).mono ?_
  rintro e w1 ⟨rfl, rfl⟩
  go_wp2_with fail
  refine (Hf.out).mono ?_
  rintro e w1 ⟨rfl, rfl⟩
  go_wp2
  go_ret
  exact ⟨rfl, rfl⟩

theorem plus_any (a b : Nat) (w : World) (h : a + b < 18446744073709551616) :
    Calls Try.prog 48 #[.int .u64 (a : Int), .int .u64 (b : Int)] w fun e w' => e = .returned (.int .u64 (((a + b) % PR : Nat) : Int)) ∧ w = w' := by
  have hf := fold_any 0 (a + b) w (by omega) h (by omega)
  rw [foldN_small _ h] at hf
  have hs : IntKind.u64.wrap ((a : Int) + (b : Int)) = ((a + b : Nat) : Int) := by rw [addN, u64_of h]
  clear h
  generalize a + b = s at *
  generalize s % PR = r at *
  have Hf := Lib.hid hf
  clear hf
  go_enter Try.func48, Try.ntmps48
  go_wp2_with fail
  refine (Hf.out).mono ?_
  rintro e w1 ⟨rfl, rfl⟩
  go_wp2
  go_ret
  exact ⟨rfl, rfl⟩

set_option maxRecDepth 100000 in
theorem power_any (N : Nat) (w : World) (hN : N < 18446744073709551616) :
    Calls Try.prog 50 #[.int .u64 (N : Int)] w fun e w' => e = .returned (.int .u64 (powN 1000003 N : Int)) ∧ w = w' := by
  have HN := Lib.hid hN
  clear hN
  go_enter Try.func50, Try.ntmps50
  go_wp2_with fail
  go_loop [0, 3, 4] (fun s0 s3 s4 => ∃ m o b : Nat, s0 = .int .u64 (m : Int) ∧ s3 = .int .u64 (o : Int) ∧ s4 = .int .u64 (b : Int) ∧ m ≤ N ∧ Hid (o < PR ∧ b < PR) ∧ Hid (o * b ^ m % PR = powN 1000003 N)) (fun s0 _ _ => (intOf s0).toNat)
  case atStart => exact ⟨N, 1, 1000003, rfl, rfl, rfl, Nat.le_refl _, ⟨by unfold PR; omega, by unfold PR; omega⟩, by show _ = _; rw [Nat.one_mul, powN]⟩
  case round =>
    obtain ⟨m, o, b, rfl, rfl, rfl, hm, Hob, He⟩ := hrel
    by_cases h0 : (0 : Int) < (m : Int)
    · have h1 := and1 m (by have := HN.out; omega)
      have ht1 := times_any o b w Hob.out.1 Hob.out.2
      have ht2 := times_any b b w Hob.out.2 Hob.out.2
      have Ht1 := Lib.hid ht1
      have Ht2 := Lib.hid ht2
      have HP : Hid (0 < PR) := PR_pos
      clear ht1 ht2
      rcases (show m % 2 = 1 ∨ m % 2 = 0 from by omega) with h2 | h2
      · have hs := pow_step_odd o b m h2
        rw [He.out] at hs
        rw [h2] at h1
        have Hs := Lib.hid hs
        clear hs h2
        go_wp2_with fail
        refine (Ht1.out).mono ?_
        rintro e w1 ⟨rfl, rfl⟩
        go_wp2_with fail
        refine (Ht2.out).mono ?_
        rintro e w1 ⟨rfl, rfl⟩
        go_wp2
        go_round
        case rel => exact ⟨m / 2, o * b % PR, b * b % PR, by go_num, rfl, rfl, by omega, ⟨Nat.mod_lt _ HP.out, Nat.mod_lt _ HP.out⟩, Hs⟩
        case measure => simp [intOf]; omega
      · have hs := pow_step_even o b m h2
        rw [He.out] at hs
        rw [h2] at h1
        have Hs := Lib.hid hs
        clear hs h2
        go_wp2_with fail
        refine (Ht2.out).mono ?_
        rintro e w1 ⟨rfl, rfl⟩
        go_wp2
        go_round
        case rel => exact ⟨m / 2, o, b * b % PR, by go_num, rfl, rfl, by omega, ⟨Hob.out.1, Nat.mod_lt _ HP.out⟩, Hs⟩
        case measure => simp [intOf]; omega
    · obtain rfl : m = 0 := by omega
      have he := He.out
      rw [Nat.pow_zero, Nat.mul_one, Nat.mod_eq_of_lt Hob.out.1] at he
      subst he
      go_wp2
      go_ret
      exact ⟨rfl, rfl⟩

set_option maxRecDepth 100000 in
theorem dof_any (A : Option Addr) (n c : Nat) (l : List UInt8) (w : World) (hl : l.length = n) (hn : n ≤ 140737488355328) (hr : Rd w w.heap.size A (vb l)) :
    Calls Try.prog 26 #[.slice A n c] w fun e w' => e = .returned (.agg #[.int .u64 (n : Int), .int .u64 (ofN 0 l : Int)]) ∧ Below w.heap.size w w' := by
  have Hl := Lib.hid hl
  have hwn := u64_of (a := n) (by omega)
  have Hn := Lib.hid hn
  clear hl hn
  go_enter Try.func26, Try.ntmps26
  go_wp2_with fail
  go_loopw [12] (fun i wr => ∃ k : Nat, k ≤ n ∧ i = .int .i64 k ∧ Bk wr w.heap.size 46 #[.int .u64 0, .int .u64 0] ∧ Bk wr (w.heap.size + 1) 46 #[.int .u64 (n : Int), .int .u64 (ofN 0 (l.take k) : Int)] ∧ Below w.heap.size w wr) (fun i _ => n - (intOf i).toNat)
  case atStart =>
    refine ⟨0, Nat.zero_le _, rfl, (Bk.new w _ _).alloc _, ?_, below_al (below_al (Below.refl _ _) _) _⟩
    have := Bk.new (w.alloc (.cells #[.int .u64 0, .int .u64 0] 46)) 46 #[.int .u64 (n : Int), .int .u64 0]
    simpa [ofN] using this
  case round =>
    obtain ⟨k, hk, rfl, hb0, hb1, hbr⟩ := hrel
    have hn' := Hn.out
    by_cases hlt : k < n
    · have hkl : k < l.length := by have := Hl.out; omega
      obtain ⟨b, off, rfl, hbb, hcell⟩ := hr.byte hkl
      rw [← hbr.cell (p := ⟨b, off + k, none⟩) hbb] at hcell
      have hs := ofN_take l k hkl
      have hx := l[k].toNat_lt
      have hlt1 := ofN_lt (l.take k)
      generalize l[k].toNat = x at *
      generalize ofN 0 (l.take k) = s at *
      have h1 : wr.cell? ⟨w.heap.size + 1, 1, none⟩ = some (.int .u64 (s : Int)) := hb1.cell 1
      have f1 : wr.frozen? ⟨w.heap.size + 1, 1, none⟩ = false := hb1.free 1
      have ht := times_any s 1000003 wr hlt1 (by unfold PR; omega)
      have hm : s * 1000003 % PR < PR := Nat.mod_lt _ PR_pos
      have hp := plus_any (s * 1000003 % PR) (x + 1) wr (by unfold PR at hm ⊢; omega)
      change Calls _ _ _ _ (fun e w' => e = .returned (.int .u64 (stepN s x : Int)) ∧ wr = w') at hp
      rw [show ((x + 1 : Nat) : Int) = (x : Int) + 1 from by omega] at hp
      generalize s * 1000003 % PR = s1 at *
      have hx2 : (x : Int) < 256 := by omega
      have Ht := Lib.hid ht
      have Hp := Lib.hid hp
      have Hs := Lib.hid hs
      clear ht hp hs hm hlt1 hkl hx
      go_wp2_with fail
      refine (Ht.out).mono ?_
      rintro e w1 ⟨rfl, rfl⟩
      go_wp2_with fail
      refine (Hp.out).mono ?_
      rintro e w1 ⟨rfl, rfl⟩
      go_wp2_with fail
      go_roundw
      case rel => exact ⟨k + 1, by omega, by go_num, hb0.far (by simp) _, by rw [Hs.out]; exact hb1.put 1 _, hbr.setCell (by simp) _⟩
      case measure => simp [intOf]; omega
    · obtain rfl : k = n := by omega
      rw [List.take_of_length_le (by rw [Hl.out]; omega)] at hb1
      have c0 : wr.cell? ⟨w.heap.size + 1, 0, none⟩ = some (.int .u64 (k : Int)) := hb1.cell 0
      have c1 : wr.cell? ⟨w.heap.size + 1, 1, none⟩ = some (.int .u64 (ofN 0 l : Int)) := hb1.cell 1
      have r0 : wr.cell? ⟨w.heap.size, 0, none⟩ = some (.int .u64 0) := hb0.cell 0
      have r1 : wr.cell? ⟨w.heap.size, 1, none⟩ = some (.int .u64 0) := hb0.cell 1
      have q0 : wr.frozen? ⟨w.heap.size, 0, none⟩ = false := hb0.free 0
      have q1 : wr.frozen? ⟨w.heap.size, 1, none⟩ = false := hb0.free 1
      go_wp2_with fail
      exact bodyPost_ret (v := .agg #[.int .u64 (k : Int), .int .u64 (ofN 0 l : Int)]) (by simp [results, Try.results26, go_sem, r0, r1]) rfl ⟨rfl, (hbr.setCell (by simp) _).setCell (by simp) _⟩
end Go.Proofs.Ytpcpkmpkpjohmaa
