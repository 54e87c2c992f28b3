/- What the two functions Next come to, the program's and the document's: 'next'. -/
import Derived.Test.YtcbngjpihcemiaaVa
namespace Go.Proofs.Ytcbngjpihcemiaa
open Go.RowKit

set_option maxHeartbeats 2000000 in
set_option maxRecDepth 100000 in
theorem next_any (A : Option Addr) (n c B : Nat) (l : List UInt8) (w : World) (hl : l.length = n) (hn : n ≤ 9223372036854775000) (hr : Rd w B A (vb l)) :
    Calls Try.prog 152 #[.slice A n c] w fun e w' => e = .returned (.tuple #[.int .u64 ((next l).1 : Int), .int .i64 ((next l).2.1 : Int), .int .i64 ((next l).2.2 : Int)]) ∧ w = w' := by
  have Hl := Lib.hid hl
  clear hl
  generalize hN : next l = R
  have HN := Lib.hid hN
  clear hN
  obtain ⟨r1, r2, r3⟩ := R
  go_enter Try.func152, Try.ntmps152
  go_wp2
  go_loop [5, 10] (fun a i => ∃ k N : Nat, k ≤ n ∧ k ≤ 9 ∧ i = .int .i64 k ∧ a = .int .u64 N ∧ Hid (N < 128 ^ k) ∧ Hid (nextL k N (l.drop k) = (r1, r2, r3))) (fun _ i => n - (intOf i).toNat)
  case atStart => exact ⟨0, 0, Nat.zero_le _, by omega, rfl, rfl, (by decide : 0 < 128 ^ 0), HN.out⟩
  case round =>
    obtain ⟨k, N, hk, hk9, rfl, rfl, HNk, HX⟩ := hrel
    by_cases hlt : k < n
    · have hkl : k < l.length := by have := Hl.out; omega
      obtain ⟨b, off, rfl, hb, hcell⟩ := hr.byte hkl
      have hX := HX.out
      rw [List.drop_eq_getElem_cons hkl, nextL_cons] at hX
      have hx256 : (l[k].toNat : Int) < 256 := by have := l[k].toNat_lt; omega
      generalize l[k].toNat = x at *
      have hj : x < 256 := by omega
      by_cases hbad : (k = 9 ∧ 1 < x) ∨ (0 < k ∧ x = 0)
      · rw [if_pos hbad] at hX
        simp only [Prod.mk.injEq] at hX
        obtain ⟨rfl, rfl, rfl⟩ := hX
        rcases (show (9 ≤ k ∧ 1 < x) ∨ (0 < k ∧ k < 9 ∧ x < 1) ∨ (9 ≤ k ∧ x < 1) from by omega) with ⟨h9, hx⟩ | ⟨h0, h9, hx⟩ | ⟨h9, hx⟩
        · have h9' : ((k : Int) == 9) = true := beq_iff_eq.2 (by omega)
          have hx' : (1 : Int) < (x : Int) := by omega
          clear hbad hkl
          go_wp2
          go_ret3
          exact ⟨rfl, rfl⟩
        · have h9' : ((k : Int) == 9) = false := beq_eq_false_iff_ne.2 (by omega)
          have h0' : (0 : Int) < (k : Int) := by omega
          have hx' : ((x : Int) == 0) = true := beq_iff_eq.2 (by omega)
          clear hbad hkl
          go_wp2
          go_ret3
          exact ⟨rfl, rfl⟩
        · have h9' : ((k : Int) == 9) = true := beq_iff_eq.2 (by omega)
          have h0' : (0 : Int) < (k : Int) := by omega
          have hx' : ((x : Int) == 0) = true := beq_iff_eq.2 (by omega)
          have hx1 : ¬ (1 : Int) < (x : Int) := by omega
          clear hbad hkl
          go_wp2
          go_ret3
          exact ⟨rfl, rfl⟩
      · rw [if_neg hbad] at hX
        have hsum := bits_add HNk.out hk9 hj (by omega)
        have hroom := room128 (x := x) HNk.out
        have Hroom := Lib.hid hroom
        clear hroom
        generalize N + x % 128 * 128 ^ k = N1 at *
        by_cases hlast : (x : Int) < 128
        · rw [if_pos (by omega)] at hX
          simp only [Prod.mk.injEq] at hX
          obtain ⟨rfl, rfl, rfl⟩ := hX
          rcases (show (9 ≤ k ∧ ¬ 1 < x ∧ x ≠ 0) ∨ (0 < k ∧ k < 9 ∧ x ≠ 0) ∨ k < 1 from by omega) with ⟨h9, hx, hx0⟩ | ⟨h0, h9, hx0⟩ | h0
          · have h9' : ((k : Int) == 9) = true := beq_iff_eq.2 (by omega)
            have h0' : (0 : Int) < (k : Int) := by omega
            have hx1 : ¬ (1 : Int) < (x : Int) := by omega
            have hx' : ((x : Int) == 0) = false := beq_eq_false_iff_ne.2 (by omega)
            clear hbad hkl
            go_wp2
            go_ret3
            exact ⟨by first | rfl | (simp; done), rfl⟩
          · have h9' : ((k : Int) == 9) = false := beq_eq_false_iff_ne.2 (by omega)
            have h0' : (0 : Int) < (k : Int) := by omega
            have hx0' : ((x : Int) == 0) = false := beq_eq_false_iff_ne.2 (by omega)
            clear hbad hkl
            go_wp2
            go_ret3
            exact ⟨by first | rfl | (simp; done), rfl⟩
          · have h9' : ((k : Int) == 9) = false := beq_eq_false_iff_ne.2 (by omega)
            have h0' : ¬ (0 : Int) < (k : Int) := by omega
            clear hbad hkl
            go_wp2
            go_ret3
            exact ⟨by first | rfl | (simp; done), rfl⟩
        · rw [if_neg (by omega)] at hX
          have hk8 : k < 9 := by omega
          have h9' : ((k : Int) == 9) = false := beq_eq_false_iff_ne.2 (by omega)
          have HX := Lib.hid hX
          rcases (show (0 < k ∧ x ≠ 0) ∨ k < 1 from by omega) with ⟨h0, hx0⟩ | h0
          · have h0' : (0 : Int) < (k : Int) := by omega
            have hx0' : ((x : Int) == 0) = false := beq_eq_false_iff_ne.2 (by omega)
            clear hbad hkl hX
            go_wp2
            go_round
            case rel => exact ⟨k + 1, N1, by omega, by omega, by go_num, rfl, Hroom, HX⟩
            case measure => simp [intOf]; omega
          · have h0' : ¬ (0 : Int) < (k : Int) := by omega
            clear hbad hkl hX
            go_wp2
            go_round
            case rel => exact ⟨k + 1, N1, by omega, by omega, by go_num, rfl, Hroom, HX⟩
            case measure => simp [intOf]; omega
    · go_wp2
      have hX := HX.out
      rw [List.drop_of_length_le (by have := Hl.out; omega), nextL_nil] at hX
      simp only [Prod.mk.injEq] at hX
      obtain ⟨rfl, rfl, rfl⟩ := hX
      go_ret3
      exact ⟨rfl, rfl⟩

set_option maxHeartbeats 2000000 in
set_option maxRecDepth 100000 in
theorem refnext_any (A : Option Addr) (n c B : Nat) (l : List UInt8) (w : World) (hl : l.length = n) (hn : n ≤ 9223372036854775000) (hr : Rd w B A (vb l)) :
    Calls Try.prog 154 #[.slice A n c] w fun e w' => e = .returned (.tuple #[.int .u64 ((next l).1 : Int), .int .i64 ((next l).2.1 : Int), .int .i64 ((next l).2.2 : Int)]) ∧ w = w' := by
  have Hl := Lib.hid hl
  clear hl
  generalize hN : next l = R
  have HN := Lib.hid hN
  clear hN
  obtain ⟨r1, r2, r3⟩ := R
  go_enter Try.func154, Try.ntmps154
  go_wp2
  go_loop [5] (fun i => ∃ k : Nat, k ≤ n ∧ k ≤ 9 ∧ i = .int .i64 k ∧ Hid (nextL k (low (l.take k)) (l.drop k) = (r1, r2, r3))) (fun i => n - (intOf i).toNat)
  case atStart => exact ⟨0, Nat.zero_le _, by omega, rfl, HN.out⟩
  case round =>
    obtain ⟨k, hk, hk9, rfl, HX⟩ := hrel
    by_cases hlt : k < n
    · have hkl : k < l.length := by have := Hl.out; omega
      obtain ⟨b, off, rfl, hb, hcell⟩ := hr.byte hkl
      have hX := HX.out
      rw [List.drop_eq_getElem_cons hkl, nextL_cons, ← low_take_succ l k hkl] at hX
      have hx256 : (l[k].toNat : Int) < 256 := by have := l[k].toNat_lt; omega
      have hroom := fun h : k = 9 → l[k].toNat ≤ 1 => low_room hkl hk9 h
      generalize l[k].toNat = x at *
      by_cases hbad : (k = 9 ∧ 1 < x) ∨ (0 < k ∧ x = 0)
      · rw [if_pos hbad] at hX
        simp only [Prod.mk.injEq] at hX
        obtain ⟨rfl, rfl, rfl⟩ := hX
        clear hroom
        rcases (show (9 ≤ k ∧ 1 < x) ∨ (0 < k ∧ k < 9 ∧ x < 1) ∨ (9 ≤ k ∧ x < 1) from by omega) with ⟨h9, hx⟩ | ⟨h0, h9, hx⟩ | ⟨h9, hx⟩
        · have h9' : ((k : Int) == 9) = true := beq_iff_eq.2 (by omega)
          have hx' : (1 : Int) < (x : Int) := by omega
          clear hbad hkl
          go_wp2
          go_ret3
          exact ⟨rfl, rfl⟩
        · have h9' : ((k : Int) == 9) = false := beq_eq_false_iff_ne.2 (by omega)
          have h0' : (0 : Int) < (k : Int) := by omega
          have hx' : ((x : Int) == 0) = true := beq_iff_eq.2 (by omega)
          clear hbad hkl
          go_wp2
          go_ret3
          exact ⟨rfl, rfl⟩
        · have h9' : ((k : Int) == 9) = true := beq_iff_eq.2 (by omega)
          have h0' : (0 : Int) < (k : Int) := by omega
          have hx' : ((x : Int) == 0) = true := beq_iff_eq.2 (by omega)
          have hx1 : ¬ (1 : Int) < (x : Int) := by omega
          clear hbad hkl
          go_wp2
          go_ret3
          exact ⟨rfl, rfl⟩
      · rw [if_neg hbad] at hX
        by_cases hlast : (x : Int) < 128
        · rw [if_pos (by omega)] at hX
          simp only [Prod.mk.injEq] at hX
          obtain ⟨rfl, rfl, rfl⟩ := hX
          have Hroom := Lib.hid (hroom (by omega))
          have hcases : (((k : Int) == 9) = true ∧ ((0 : Int) < (k : Int)) ∧ (¬ (1 : Int) < (x : Int)) ∧ ((x : Int) == 0) = false) ∨ (((k : Int) == 9) = false ∧ ((0 : Int) < (k : Int)) ∧ ((x : Int) == 0) = false) ∨ (((k : Int) == 9) = false ∧ ¬ ((0 : Int) < (k : Int))) := by
            simp only [beq_iff_eq, beq_eq_false_iff_ne, ne_eq]
            omega
          clear hroom hbad
          rcases hcases with ⟨h9', h0', hx1, hx'⟩ | ⟨h9', h0', hx'⟩ | ⟨h9', h0'⟩
          all_goals
            go_wp2
            go_loop [6, 7] (fun s j => ∃ J : Int, -1 ≤ J ∧ J ≤ k ∧ j = .int .i64 J ∧ s = .int .u64 (low ((l.take (k + 1)).drop (J + 1).toNat) : Nat)) (fun _ j => (intOf j + 1).toNat)
            case atStart => exact ⟨k, by omega, by omega, rfl, by rw [List.drop_of_length_le (by rw [List.length_take]; omega)]; rfl⟩
            case round =>
              obtain ⟨J, hJ1, hJ2, rfl, rfl⟩ := hrel
              by_cases hJ : 0 ≤ J
              · obtain ⟨q, rfl⟩ := Int.eq_ofNat_of_zero_le hJ
                obtain ⟨b', off', e, _, hq⟩ := hr.byte (i := q) (by omega)
                simp only [Option.some.injEq, Addr.mk.injEq, and_true] at e
                obtain ⟨rfl, rfl⟩ := e
                have hlow := low_at l k q hkl (by omega)
                have hle := low_drop (l.take (k + 1)) q
                have hlt2 := Nat.lt_of_le_of_lt hle Hroom.out
                have hy256 : (l[q].toNat : Int) < 256 := by have := l[q].toNat_lt; omega
                have hq1 : ((q : Int) + 1).toNat = q + 1 := rfl
                rw [hq1]
                generalize l[q].toNat = y at *
                generalize hS : low (List.drop (q + 1) (List.take (k + 1) l)) = S at *
                have hwrap := horner (y := y) (S := S) (by omega)
                rw [← hlow] at hwrap
                have HS := Lib.hid hS
                clear hlow hle hlt2 hS hq1
                go_wp2
                go_round
                case rel => exact ⟨(q : Int) - 1, by omega, by omega, rfl, by rw [show ((q : Int) - 1 + 1).toNat = q from by omega]⟩
                case measure => first | (simp [intOf]; done) | (simp [intOf]; omega)
              · obtain rfl : J = -1 := by omega
                go_wp2
                go_ret3
                exact ⟨by first | rfl | (simp; done), rfl⟩
        · rw [if_neg (by omega)] at hX
          have hk8 : k < 9 := by omega
          have h9' : ((k : Int) == 9) = false := beq_eq_false_iff_ne.2 (by omega)
          have HX := Lib.hid hX
          clear hroom
          rcases (show (0 < k ∧ x ≠ 0) ∨ k < 1 from by omega) with ⟨h0, hx0⟩ | h0
          · have h0' : (0 : Int) < (k : Int) := by omega
            have hx0' : ((x : Int) == 0) = false := beq_eq_false_iff_ne.2 (by omega)
            clear hbad hkl hX
            go_wp2
            go_round
            case rel => exact ⟨k + 1, by omega, by omega, by go_num, HX⟩
            case measure => simp [intOf]; omega
          · have h0' : ¬ (0 : Int) < (k : Int) := by omega
            clear hbad hkl hX
            go_wp2
            go_round
            case rel => exact ⟨k + 1, by omega, by omega, by go_num, HX⟩
            case measure => simp [intOf]; omega
    · go_wp2
      have hX := HX.out
      rw [List.drop_of_length_le (by have := Hl.out; omega), nextL_nil] at hX
      simp only [Prod.mk.injEq] at hX
      obtain ⟨rfl, rfl, rfl⟩ := hX
      go_ret3
      exact ⟨rfl, rfl⟩
end Go.Proofs.Ytcbngjpihcemiaa
