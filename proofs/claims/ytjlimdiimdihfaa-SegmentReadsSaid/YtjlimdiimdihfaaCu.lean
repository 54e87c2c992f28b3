/- check.Of, walked. -/
import Derived.Test.YtjlimdiimdihfaaCt
namespace Go.Proofs.Ytjlimdiimdihfaa
open Go.RowKit

theorem u32_and15 (x : Nat) (h : x < 4294967296) : bits .and .u32 (x : Int) 15 = ((x % 16 : Nat) : Int) := by
  have := u32_and_nat x 15 h (by omega)
  rw [show x &&& 15 = x % 16 from Nat.and_two_pow_sub_one_eq_mod x 4] at this
  exact this
/-- The program's sum of bytes. -/
def crc (l : List UInt8) : Nat := 4294967295 - sumN 4294967295 l
theorem crc_lt (l : List UInt8) : crc l < 4294967296 := by unfold crc; omega
theorem sum_lt (l : List UInt8) : sumN 4294967295 l < 4294967296 := sumN_lt l _ (by omega)

theorem tab_lit : ∃ z0 z1 z2 z3 z4 z5 z6 z7 z8 z9 z10 z11 z12 z13 z14 z15 : Nat, tabV 16 = #[.int .u32 (z0 : Int), .int .u32 (z1 : Int), .int .u32 (z2 : Int), .int .u32 (z3 : Int), .int .u32 (z4 : Int), .int .u32 (z5 : Int), .int .u32 (z6 : Int), .int .u32 (z7 : Int), .int .u32 (z8 : Int), .int .u32 (z9 : Int), .int .u32 (z10 : Int), .int .u32 (z11 : Int), .int .u32 (z12 : Int), .int .u32 (z13 : Int), .int .u32 (z14 : Int), .int .u32 (z15 : Int)] := ⟨_, _, _, _, _, _, _, _, _, _, _, _, _, _, _, _, tab_16 (zK 4)⟩
theorem xor_full (s : Nat) (h : s < 2 ^ 32) : 4294967295 ^^^ s = 4294967295 - s := by
  apply Nat.eq_of_testBit_eq
  intro i
  have e := Nat.testBit_two_pow_sub_succ h i
  have e1 : 2 ^ 32 - (s + 1) = 4294967295 - s := by omega
  rw [e1] at e
  have e2 := Nat.testBit_two_pow_sub_one 32 i
  rw [e, Nat.testBit_xor, show (4294967295 : Nat) = 2 ^ 32 - 1 from rfl, e2]
  by_cases hi : i < 32
  · simp [hi]
  · have : s.testBit i = false := Nat.testBit_lt_two_pow (Nat.lt_of_lt_of_le h (Nat.pow_le_pow_right (by omega) (by omega)))
    simp [hi, this]
theorem not_u32 (s : Nat) (h : s < 4294967296) : bits .xor .u32 IntKind.u32.max (s : Int) = ((4294967295 - s : Nat) : Int) := by
  have := u32_xor_nat 4294967295 s (by omega) h
  rw [xor_full s h] at this
  exact this
set_option maxHeartbeats 2000000 in
set_option maxRecDepth 100000 in
theorem cof_any (A : Option Addr) (n c : Nat) (l : List Tx) (w : World) (hl : l.length = n) (hn : n ≤ 1000000) (hr : Rd w w.heap.size A (vt l)) (hok : ∀ x ∈ l, x.ok w ∧ x.l.length ≤ 70368744177664) :
    Calls Try.prog 53 #[.slice A n c] w fun e w' => e = .returned (.int .u32 (crc (l.flatMap Tx.l) : Int)) ∧ Below w.heap.size w w' := by
  have Hl := Lib.hid hl
  have Hok := Lib.hid hok
  clear hl hok
  go_enter Try.func53, Try.ntmps53
  go_wp2_with fail
  refine (table_any w).mono ?_
  rintro e w1 ⟨rfl, hb1⟩
  obtain ⟨z0, z1, z2, z3, z4, z5, z6, z7, z8, z9, z10, z11, z12, z13, z14, z15, ht⟩ := tab_lit
  have Ht := Lib.hid ht
  rw [ht]
  clear ht
  have hB : Bk (w1.alloc (.cells #[.int .u32 (z0 : Int), .int .u32 (z1 : Int), .int .u32 (z2 : Int), .int .u32 (z3 : Int), .int .u32 (z4 : Int), .int .u32 (z5 : Int), .int .u32 (z6 : Int), .int .u32 (z7 : Int), .int .u32 (z8 : Int), .int .u32 (z9 : Int), .int .u32 (z10 : Int), .int .u32 (z11 : Int), .int .u32 (z12 : Int), .int .u32 (z13 : Int), .int .u32 (z14 : Int), .int .u32 (z15 : Int)] 120)) w1.heap.size 120 (tabV 16) := by
    rw [Ht.out]
    exact Bk.new _ _ _
  have hbe := hb1.alloc hb1.size (.cells #[.int .u32 (z0 : Int), .int .u32 (z1 : Int), .int .u32 (z2 : Int), .int .u32 (z3 : Int), .int .u32 (z4 : Int), .int .u32 (z5 : Int), .int .u32 (z6 : Int), .int .u32 (z7 : Int), .int .u32 (z8 : Int), .int .u32 (z9 : Int), .int .u32 (z10 : Int), .int .u32 (z11 : Int), .int .u32 (z12 : Int), .int .u32 (z13 : Int), .int .u32 (z14 : Int), .int .u32 (z15 : Int)] 120)
  go_wp2_with fail
  have hrW : Rd (w1.alloc (.cells #[.int .u32 (z0 : Int), .int .u32 (z1 : Int), .int .u32 (z2 : Int), .int .u32 (z3 : Int), .int .u32 (z4 : Int), .int .u32 (z5 : Int), .int .u32 (z6 : Int), .int .u32 (z7 : Int), .int .u32 (z8 : Int), .int .u32 (z9 : Int), .int .u32 (z10 : Int), .int .u32 (z11 : Int), .int .u32 (z12 : Int), .int .u32 (z13 : Int), .int .u32 (z14 : Int), .int .u32 (z15 : Int)] 120)) w.heap.size A (vt l) := hr.below hbe
  have hokW : ∀ x ∈ l, Rd (w1.alloc (.cells #[.int .u32 (z0 : Int), .int .u32 (z1 : Int), .int .u32 (z2 : Int), .int .u32 (z3 : Int), .int .u32 (z4 : Int), .int .u32 (z5 : Int), .int .u32 (z6 : Int), .int .u32 (z7 : Int), .int .u32 (z8 : Int), .int .u32 (z9 : Int), .int .u32 (z10 : Int), .int .u32 (z11 : Int), .int .u32 (z12 : Int), .int .u32 (z13 : Int), .int .u32 (z14 : Int), .int .u32 (z15 : Int)] 120)) w.heap.size x.A (vb x.l) ∧ x.l.length ≤ 70368744177664 := fun x hx => ⟨(Hok.out x hx).1.below hbe, (Hok.out x hx).2⟩
  have HokW := Lib.hid hokW
  clear hokW hr hb1
  generalize w1.alloc (.cells #[.int .u32 (z0 : Int), .int .u32 (z1 : Int), .int .u32 (z2 : Int), .int .u32 (z3 : Int), .int .u32 (z4 : Int), .int .u32 (z5 : Int), .int .u32 (z6 : Int), .int .u32 (z7 : Int), .int .u32 (z8 : Int), .int .u32 (z9 : Int), .int .u32 (z10 : Int), .int .u32 (z11 : Int), .int .u32 (z12 : Int), .int .u32 (z13 : Int), .int .u32 (z14 : Int), .int .u32 (z15 : Int)] 120) = W at *
  generalize w1.heap.size = g at *
  clear Ht
  go_loop [4, 12] (fun s i => ∃ k : Nat, k ≤ n ∧ i = .int .i64 k ∧ s = .int .u32 (sumN 4294967295 ((l.take k).flatMap Tx.l) : Int)) (fun _ i => n - (intOf i).toNat)
  case atStart => exact ⟨0, Nat.zero_le _, rfl, rfl⟩
  case round =>
    obtain ⟨k, hk, rfl, rfl⟩ := hrel
    by_cases hlt : k < n
    · obtain ⟨x, hx⟩ : ∃ x, l[k]? = some x := ⟨l[k]'(by have := Hl.out; omega), List.getElem?_eq_getElem _⟩
      obtain ⟨b, off, rfl, hbw, hc0⟩ := hrW _ _ (vt_get hx)
      have hnext : sumN 4294967295 ((l.take (k + 1)).flatMap Tx.l) = sumN (sumN 4294967295 ((l.take k).flatMap Tx.l)) x.l := by
        obtain ⟨h1, rfl⟩ := List.getElem?_eq_some_iff.1 hx
        rw [List.take_succ_eq_append_getElem h1, List.flatMap_append, sumN_append]
        simp
      have Hnext := Lib.hid hnext
      obtain ⟨hrx, hlx⟩ := HokW.out x (List.mem_of_getElem? hx)
      obtain ⟨xA, xc, xl⟩ := x
      simp only at hc0 hrx hlx
      have hs0 : sumN 4294967295 ((l.take k).flatMap Tx.l) < 4294967296 := sum_lt _
      clear hnext hx
      generalize sumN 4294967295 ((l.take k).flatMap Tx.l) = s0 at *
      go_wp2_with fail
      obtain ⟨m, hm⟩ : ∃ m, m = xl.length := ⟨_, rfl⟩
      have Hm := Lib.hid hm
      rw [← hm]
      clear hm
      go_loop [4, 18] (fun s j => ∃ q : Nat, q ≤ m ∧ j = .int .i64 q ∧ s = .int .u32 (sumN s0 (xl.take q) : Int)) (fun _ j => m - (intOf j).toNat)
      case atStart => exact ⟨0, Nat.zero_le _, rfl, rfl⟩
      case round =>
        obtain ⟨q, hq, rfl, rfl⟩ := hrel
        by_cases hlq : q < m
        · have hq' : q < xl.length := by rw [← Hm.out]; exact hlq
          obtain ⟨b2, off2, rfl, hb2, hc2⟩ := hrx.byte hq'
          have hstep : sumN s0 (xl.take (q + 1)) = byteN (sumN s0 (xl.take q)) xl[q].toNat := by
            rw [List.take_succ_eq_append_getElem hq', sumN_snoc]
          have hs1 : sumN s0 (xl.take q) < 4294967296 := sumN_lt _ _ hs0
          have hcb : xl[q].toNat < 256 := xl[q].toNat_lt
          generalize sumN s0 (xl.take q) = s1 at *
          generalize xl[q].toNat = cc at *
          rw [← byteN_half s1 cc hcb] at hstep
          have hx1 : bits .xor .u32 (s1 : Int) (cc : Int) = ((s1 ^^^ cc : Nat) : Int) := u32_xor_nat s1 cc hs1 (by omega)
          have hl1 : s1 ^^^ cc < 4294967296 := Nat.xor_lt_two_pow (n := 32) (by omega) (by omega)
          have ha1 := u32_and15 (s1 ^^^ cc) hl1
          have hi1 : (s1 ^^^ cc) % 16 < 16 := Nat.mod_lt _ (by omega)
          have hc3 : W.cell? ⟨g, (s1 ^^^ cc) % 16, none⟩ = some (.int .u32 (zK 4 ((s1 ^^^ cc) % 16) : Int)) := by
            rw [hB.cell, tabV_get 16 _ hi1, if_pos hi1]
          have hz1 : zK 4 ((s1 ^^^ cc) % 16) < 4294967296 := zK_lt _ _ (by omega)
          have hy1 : bits .xor .u32 ((s1 : Int) / 16) (zK 4 ((s1 ^^^ cc) % 16) : Int) = (halfN s1 cc : Int) := u32_xor_nat (s1 / 16) _ (by omega) hz1
          have hh1 : halfN s1 cc < 4294967296 := Nat.xor_lt_two_pow (n := 32) (by omega) (by omega)
          generalize halfN s1 cc = h1 at *
          generalize zK 4 ((s1 ^^^ cc) % 16) = z1' at *
          generalize (s1 ^^^ cc) % 16 = i1 at *
          generalize s1 ^^^ cc = x1 at *
          have hx2 : bits .xor .u32 (h1 : Int) ((cc : Int) / 16) = ((h1 ^^^ (cc / 16) : Nat) : Int) := u32_xor_nat h1 (cc / 16) hh1 (by omega)
          have hl2 : h1 ^^^ (cc / 16) < 4294967296 := Nat.xor_lt_two_pow (n := 32) (by omega) (by omega)
          have ha2 := u32_and15 (h1 ^^^ (cc / 16)) hl2
          have hi2 : (h1 ^^^ (cc / 16)) % 16 < 16 := Nat.mod_lt _ (by omega)
          have hc4 : W.cell? ⟨g, (h1 ^^^ (cc / 16)) % 16, none⟩ = some (.int .u32 (zK 4 ((h1 ^^^ (cc / 16)) % 16) : Int)) := by
            rw [hB.cell, tabV_get 16 _ hi2, if_pos hi2]
          have hz2 : zK 4 ((h1 ^^^ (cc / 16)) % 16) < 4294967296 := zK_lt _ _ (by omega)
          have hy2 : bits .xor .u32 ((h1 : Int) / 16) (zK 4 ((h1 ^^^ (cc / 16)) % 16) : Int) = (halfN h1 (cc / 16) : Int) := u32_xor_nat (h1 / 16) _ (by omega) hz2
          have hh2 : halfN h1 (cc / 16) < 4294967296 := Nat.xor_lt_two_pow (n := 32) (by omega) (by omega)
          generalize halfN h1 (cc / 16) = h2 at *
          generalize zK 4 ((h1 ^^^ (cc / 16)) % 16) = z2' at *
          generalize (h1 ^^^ (cc / 16)) % 16 = i2 at *
          generalize h1 ^^^ (cc / 16) = x2 at *
          have Hstep := Lib.hid hstep
          clear hstep hl1 hl2 hz1 hz2
          go_wp2_with fail
          go_round
          case rel => exact ⟨q + 1, by omega, by go_num, by rw [Hstep.out]⟩
          case measure => simp [intOf]; omega
        · obtain rfl : q = m := by omega
          have hd : sumN s0 (xl.take q) = sumN s0 xl := by rw [List.take_of_length_le (by rw [← Hm.out]; omega)]
          rw [hd]
          rw [← Hnext.out]
          go_wp2_with fail
          go_round
          case rel => exact ⟨k + 1, by omega, by go_num, rfl⟩
          case measure => simp [intOf]; omega
    · obtain rfl : k = n := by omega
      have hd : sumN 4294967295 ((l.take k).flatMap Tx.l) = sumN 4294967295 (l.flatMap Tx.l) := by rw [List.take_of_length_le (by rw [Hl.out]; omega)]
      rw [hd]
      have hs0 := sum_lt (l.flatMap Tx.l)
      generalize hS : sumN 4294967295 (l.flatMap Tx.l) = s0 at *
      have HS := Lib.hid hS
      clear hd hS
      go_wp2_with fail
      go_ret
      refine ⟨?_, hbe⟩
      unfold crc
      rw [HS.out]
      have hn := not_u32 s0 hs0
      generalize bits .xor .u32 IntKind.u32.max (s0 : Int) = X at *
      subst hn
      rfl
end Go.Proofs.Ytjlimdiimdihfaa
