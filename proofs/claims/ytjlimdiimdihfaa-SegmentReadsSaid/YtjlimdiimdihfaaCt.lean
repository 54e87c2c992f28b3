/- check.table, walked. -/
import Derived.Test.YtjlimdiimdihfaaCq
import Derived.Test.YtjlimdiimdihfaaWe
import Derived.Deep.DeepCutAuto
import Derived.RegionTactic
import Derived.Test.YtjlimdiimdihfaaChecked
import Derived.WalkLawsBesides
import Derived.Laws.BitsAllLaws
namespace Go.Proofs.Ytjlimdiimdihfaa
open Go.RowKit

/-- The table's cells. -/
def tabV (k : Nat) : Array Value := ((List.range 16).map fun i => Value.int .u32 ((if i < k then zK 4 i else 0 : Nat) : Int)).toArray
theorem tab_16 (f : Nat → Nat) : ((List.range 16).map fun i => Value.int .u32 ((if i < 16 then f i else 0 : Nat) : Int)).toArray = #[.int .u32 (f 0 : Int), .int .u32 (f 1 : Int), .int .u32 (f 2 : Int), .int .u32 (f 3 : Int), .int .u32 (f 4 : Int), .int .u32 (f 5 : Int), .int .u32 (f 6 : Int), .int .u32 (f 7 : Int), .int .u32 (f 8 : Int), .int .u32 (f 9 : Int), .int .u32 (f 10 : Int), .int .u32 (f 11 : Int), .int .u32 (f 12 : Int), .int .u32 (f 13 : Int), .int .u32 (f 14 : Int), .int .u32 (f 15 : Int)] := rfl
theorem tabV_size (k : Nat) : (tabV k).size = 16 := by simp [tabV]
theorem tabV_get (k i : Nat) (h : i < 16) : (tabV k)[i]? = some (Value.int .u32 ((if i < k then zK 4 i else 0 : Nat) : Int)) := by
  unfold tabV
  rw [List.getElem?_toArray, List.getElem?_map, List.getElem?_range h]
  rfl
theorem tabV_set (k : Nat) (h : k < 16) : (tabV k).setIfInBounds k (.int .u32 (zK 4 k : Int)) = tabV (k + 1) := by
  apply Array.ext_getElem?
  intro i
  rw [Array.getElem?_setIfInBounds, tabV_size]
  by_cases hi : i < 16
  · rw [tabV_get k i hi, tabV_get (k + 1) i hi]
    by_cases e : k = i
    · subst e
      rw [if_pos rfl, if_pos h, if_pos (by omega)]
    · rw [if_neg e]
      by_cases h2 : i < k
      · rw [if_pos h2, if_pos (by omega)]
      · rw [if_neg h2, if_neg (by omega)]
  · rw [Array.getElem?_eq_none (by rw [tabV_size]; omega), Array.getElem?_eq_none (by rw [tabV_size]; omega)]
    by_cases e : k = i
    · omega
    · rw [if_neg e]
theorem u32_of {a : Nat} (h : a < 4294967296) : IntKind.u32.wrap (a : Int) = (a : Int) := by
  rw [IntKind.wrap_u32]
  exact Int.emod_eq_of_lt (Int.natCast_nonneg _) (Int.ofNat_lt.2 h)
theorem u32_and1 (x : Nat) (h : x < 4294967296) : bits .and .u32 (x : Int) 1 = ((x % 2 : Nat) : Int) := by
  have := u32_and_nat x 1 h (by omega)
  rw [Nat.and_one_is_mod] at this
  exact this
theorem u32_poly (x : Nat) (h : x < 4294967296) : bits .xor .u32 ((x : Int) / 2) 3945912366 = ((x / 2 ^^^ CP : Nat) : Int) := by
  have := u32_xor_nat (x / 2) CP (by omega) (by unfold CP; omega)
  exact this
set_option maxHeartbeats 1000000 in
set_option maxRecDepth 100000 in
theorem table_any (w : World) : Calls Try.prog 61 #[] w fun e w' => e = .returned (.agg (tabV 16)) ∧ Below w.heap.size w w' := by
  go_enter Try.func61, Try.ntmps61
  go_wp2_with fail
  go_loopw [5] (fun i wr => ∃ k : Nat, k ≤ 16 ∧ i = .int .i64 k ∧ Bk wr w.heap.size 120 (tabV 0) ∧ Bk wr (w.heap.size + 1) 120 (tabV k) ∧ Below w.heap.size w wr) (fun i _ => 16 - (intOf i).toNat)
  case atStart =>
    refine ⟨0, by omega, rfl, (Bk.new w _ _).alloc _, ?_, below_al (below_al (Below.refl _ _) _) _⟩
    have := Bk.new (w.alloc (.cells (tabV 0) 120)) 120 (tabV 0)
    have e : (w.alloc (.cells (tabV 0) 120)).heap.size = w.heap.size + 1 := by simp
    rw [e] at this
    exact this
  case round =>
    obtain ⟨k, hk, rfl, hb0, hb1, hbr⟩ := hrel
    by_cases hlt : k < 16
    · have hwk := u32_of (a := k) (by omega)
      go_wp2_with fail
      go_loopw [3, 10] (fun n j wq => ∃ q : Nat, q ≤ 4 ∧ j = .int .i64 q ∧ n = .int .u32 (zK q k : Int) ∧ wq = wr) (fun _ j _ => 4 - (intOf j).toNat)
      case atStart => exact ⟨0, by omega, rfl, rfl, rfl⟩
      case round =>
        obtain ⟨q, hq, rfl, rfl, rfl⟩ := hrel
        by_cases hlq : q < 4
        · have hz : zK q k < 4294967296 := zK_lt q k (by omega)
          have hnext : zK (q + 1) k = zN (zK q k) := zK_add q 1 k
          have Hnext := Lib.hid hnext
          clear hnext hb0 hb1 hbr
          have hand := u32_and1 _ hz
          have hpoly := u32_poly _ hz
          have hh : IntKind.u32.wrap ((zK q k : Int) / 2) = (zK q k : Int) / 2 := by
            have := u32_of (a := zK q k / 2) (by omega)
            rw [Int.natCast_ediv] at this
            exact this
          generalize zK q k = x at *
          by_cases ho : x % 2 = 1
          · rw [ho] at hand
            go_wp2_with fail
            refine ⟨⟨q + 1, by omega, by simp, ?_, trivial⟩, ?_⟩
            · rw [Hnext.out]
              unfold zN
              rw [if_pos ho]
            · simp only [intOf]
              omega
          · have ho' : x % 2 = 0 := by omega
            rw [ho'] at hand
            go_wp2_with fail
            refine ⟨⟨q + 1, by omega, by simp, ?_, trivial⟩, ?_⟩
            · rw [Hnext.out]
              unfold zN
              rw [if_neg ho, Nat.xor_zero, Int.natCast_ediv]
              rfl
            · simp only [intOf]
              omega
        · obtain rfl : q = 4 := by omega
          have hc : wr.cell? ⟨w.heap.size + 1, k, none⟩ = some (.int .u32 0) := by
            rw [hb1.cell k, tabV_get k k hlt, if_neg (by omega)]
            rfl
          have hf : wr.frozen? ⟨w.heap.size + 1, k, none⟩ = false := hb1.free k
          have hput := hb1.put k (.int .u32 (zK 4 k : Int))
          rw [tabV_set k hlt] at hput
          have h0 := hb0.far (p := ⟨w.heap.size + 1, k, none⟩) (by simp) (.int .u32 (zK 4 k : Int))
          have hbe := below_put hbr (p := ⟨w.heap.size + 1, k, none⟩) (by simp) (.int .u32 (zK 4 k : Int))
          generalize zK 4 k = x at *
          go_wp2_with fail
          refine ⟨⟨k + 1, by omega, by simp, h0, hput, hbe⟩, ?_⟩
          simp only [intOf]
          omega
    · obtain rfl : k = 16 := by omega
      clear hlt hk
      have d0 : wr.cell? ⟨w.heap.size + 1, 0, none⟩ = some (.int .u32 (zK 4 0 : Int)) := hb1.cell 0
      have d1 : wr.cell? ⟨w.heap.size + 1, 1, none⟩ = some (.int .u32 (zK 4 1 : Int)) := hb1.cell 1
      have d2 : wr.cell? ⟨w.heap.size + 1, 2, none⟩ = some (.int .u32 (zK 4 2 : Int)) := hb1.cell 2
      have d3 : wr.cell? ⟨w.heap.size + 1, 3, none⟩ = some (.int .u32 (zK 4 3 : Int)) := hb1.cell 3
      have d4 : wr.cell? ⟨w.heap.size + 1, 4, none⟩ = some (.int .u32 (zK 4 4 : Int)) := hb1.cell 4
      have d5 : wr.cell? ⟨w.heap.size + 1, 5, none⟩ = some (.int .u32 (zK 4 5 : Int)) := hb1.cell 5
      have d6 : wr.cell? ⟨w.heap.size + 1, 6, none⟩ = some (.int .u32 (zK 4 6 : Int)) := hb1.cell 6
      have d7 : wr.cell? ⟨w.heap.size + 1, 7, none⟩ = some (.int .u32 (zK 4 7 : Int)) := hb1.cell 7
      have d8 : wr.cell? ⟨w.heap.size + 1, 8, none⟩ = some (.int .u32 (zK 4 8 : Int)) := hb1.cell 8
      have d9 : wr.cell? ⟨w.heap.size + 1, 9, none⟩ = some (.int .u32 (zK 4 9 : Int)) := hb1.cell 9
      have d10 : wr.cell? ⟨w.heap.size + 1, 10, none⟩ = some (.int .u32 (zK 4 10 : Int)) := hb1.cell 10
      have d11 : wr.cell? ⟨w.heap.size + 1, 11, none⟩ = some (.int .u32 (zK 4 11 : Int)) := hb1.cell 11
      have d12 : wr.cell? ⟨w.heap.size + 1, 12, none⟩ = some (.int .u32 (zK 4 12 : Int)) := hb1.cell 12
      have d13 : wr.cell? ⟨w.heap.size + 1, 13, none⟩ = some (.int .u32 (zK 4 13 : Int)) := hb1.cell 13
      have d14 : wr.cell? ⟨w.heap.size + 1, 14, none⟩ = some (.int .u32 (zK 4 14 : Int)) := hb1.cell 14
      have d15 : wr.cell? ⟨w.heap.size + 1, 15, none⟩ = some (.int .u32 (zK 4 15 : Int)) := hb1.cell 15
      have c0 : wr.cell? ⟨w.heap.size, 0, none⟩ = some (.int .u32 (0 : Int)) := hb0.cell 0
      have c1 : wr.cell? ⟨w.heap.size, 1, none⟩ = some (.int .u32 (0 : Int)) := hb0.cell 1
      have c2 : wr.cell? ⟨w.heap.size, 2, none⟩ = some (.int .u32 (0 : Int)) := hb0.cell 2
      have c3 : wr.cell? ⟨w.heap.size, 3, none⟩ = some (.int .u32 (0 : Int)) := hb0.cell 3
      have c4 : wr.cell? ⟨w.heap.size, 4, none⟩ = some (.int .u32 (0 : Int)) := hb0.cell 4
      have c5 : wr.cell? ⟨w.heap.size, 5, none⟩ = some (.int .u32 (0 : Int)) := hb0.cell 5
      have c6 : wr.cell? ⟨w.heap.size, 6, none⟩ = some (.int .u32 (0 : Int)) := hb0.cell 6
      have c7 : wr.cell? ⟨w.heap.size, 7, none⟩ = some (.int .u32 (0 : Int)) := hb0.cell 7
      have c8 : wr.cell? ⟨w.heap.size, 8, none⟩ = some (.int .u32 (0 : Int)) := hb0.cell 8
      have c9 : wr.cell? ⟨w.heap.size, 9, none⟩ = some (.int .u32 (0 : Int)) := hb0.cell 9
      have c10 : wr.cell? ⟨w.heap.size, 10, none⟩ = some (.int .u32 (0 : Int)) := hb0.cell 10
      have c11 : wr.cell? ⟨w.heap.size, 11, none⟩ = some (.int .u32 (0 : Int)) := hb0.cell 11
      have c12 : wr.cell? ⟨w.heap.size, 12, none⟩ = some (.int .u32 (0 : Int)) := hb0.cell 12
      have c13 : wr.cell? ⟨w.heap.size, 13, none⟩ = some (.int .u32 (0 : Int)) := hb0.cell 13
      have c14 : wr.cell? ⟨w.heap.size, 14, none⟩ = some (.int .u32 (0 : Int)) := hb0.cell 14
      have c15 : wr.cell? ⟨w.heap.size, 15, none⟩ = some (.int .u32 (0 : Int)) := hb0.cell 15
      have f0 : wr.frozen? ⟨w.heap.size, 0, none⟩ = false := hb0.free 0
      have f1 : wr.frozen? ⟨w.heap.size, 1, none⟩ = false := hb0.free 1
      have f2 : wr.frozen? ⟨w.heap.size, 2, none⟩ = false := hb0.free 2
      have f3 : wr.frozen? ⟨w.heap.size, 3, none⟩ = false := hb0.free 3
      have f4 : wr.frozen? ⟨w.heap.size, 4, none⟩ = false := hb0.free 4
      have f5 : wr.frozen? ⟨w.heap.size, 5, none⟩ = false := hb0.free 5
      have f6 : wr.frozen? ⟨w.heap.size, 6, none⟩ = false := hb0.free 6
      have f7 : wr.frozen? ⟨w.heap.size, 7, none⟩ = false := hb0.free 7
      have f8 : wr.frozen? ⟨w.heap.size, 8, none⟩ = false := hb0.free 8
      have f9 : wr.frozen? ⟨w.heap.size, 9, none⟩ = false := hb0.free 9
      have f10 : wr.frozen? ⟨w.heap.size, 10, none⟩ = false := hb0.free 10
      have f11 : wr.frozen? ⟨w.heap.size, 11, none⟩ = false := hb0.free 11
      have f12 : wr.frozen? ⟨w.heap.size, 12, none⟩ = false := hb0.free 12
      have f13 : wr.frozen? ⟨w.heap.size, 13, none⟩ = false := hb0.free 13
      have f14 : wr.frozen? ⟨w.heap.size, 14, none⟩ = false := hb0.free 14
      have f15 : wr.frozen? ⟨w.heap.size, 15, none⟩ = false := hb0.free 15
      go_wp2_with fail
      have ht : tabV 16 = _ := tab_16 (zK 4)
      rw [ht]
      clear ht hb1 hb0
      generalize zK 4 0 = z0 at *
      generalize zK 4 1 = z1 at *
      generalize zK 4 2 = z2 at *
      generalize zK 4 3 = z3 at *
      generalize zK 4 4 = z4 at *
      generalize zK 4 5 = z5 at *
      generalize zK 4 6 = z6 at *
      generalize zK 4 7 = z7 at *
      generalize zK 4 8 = z8 at *
      generalize zK 4 9 = z9 at *
      generalize zK 4 10 = z10 at *
      generalize zK 4 11 = z11 at *
      generalize zK 4 12 = z12 at *
      generalize zK 4 13 = z13 at *
      generalize zK 4 14 = z14 at *
      generalize zK 4 15 = z15 at *
      have hbe : Below w.heap.size w _ := hbr
      replace hbe := below_put hbe (p := ⟨w.heap.size, 0, none⟩) (Nat.le_refl _) (.int .u32 (z0 : Int))
      replace hbe := below_put hbe (p := ⟨w.heap.size, 1, none⟩) (Nat.le_refl _) (.int .u32 (z1 : Int))
      replace hbe := below_put hbe (p := ⟨w.heap.size, 2, none⟩) (Nat.le_refl _) (.int .u32 (z2 : Int))
      replace hbe := below_put hbe (p := ⟨w.heap.size, 3, none⟩) (Nat.le_refl _) (.int .u32 (z3 : Int))
      replace hbe := below_put hbe (p := ⟨w.heap.size, 4, none⟩) (Nat.le_refl _) (.int .u32 (z4 : Int))
      replace hbe := below_put hbe (p := ⟨w.heap.size, 5, none⟩) (Nat.le_refl _) (.int .u32 (z5 : Int))
      replace hbe := below_put hbe (p := ⟨w.heap.size, 6, none⟩) (Nat.le_refl _) (.int .u32 (z6 : Int))
      replace hbe := below_put hbe (p := ⟨w.heap.size, 7, none⟩) (Nat.le_refl _) (.int .u32 (z7 : Int))
      replace hbe := below_put hbe (p := ⟨w.heap.size, 8, none⟩) (Nat.le_refl _) (.int .u32 (z8 : Int))
      replace hbe := below_put hbe (p := ⟨w.heap.size, 9, none⟩) (Nat.le_refl _) (.int .u32 (z9 : Int))
      replace hbe := below_put hbe (p := ⟨w.heap.size, 10, none⟩) (Nat.le_refl _) (.int .u32 (z10 : Int))
      replace hbe := below_put hbe (p := ⟨w.heap.size, 11, none⟩) (Nat.le_refl _) (.int .u32 (z11 : Int))
      replace hbe := below_put hbe (p := ⟨w.heap.size, 12, none⟩) (Nat.le_refl _) (.int .u32 (z12 : Int))
      replace hbe := below_put hbe (p := ⟨w.heap.size, 13, none⟩) (Nat.le_refl _) (.int .u32 (z13 : Int))
      replace hbe := below_put hbe (p := ⟨w.heap.size, 14, none⟩) (Nat.le_refl _) (.int .u32 (z14 : Int))
      replace hbe := below_put hbe (p := ⟨w.heap.size, 15, none⟩) (Nat.le_refl _) (.int .u32 (z15 : Int))
      refine bodyPost_ret (v := .agg #[.int .u32 (z0 : Int), .int .u32 (z1 : Int), .int .u32 (z2 : Int), .int .u32 (z3 : Int), .int .u32 (z4 : Int), .int .u32 (z5 : Int), .int .u32 (z6 : Int), .int .u32 (z7 : Int), .int .u32 (z8 : Int), .int .u32 (z9 : Int), .int .u32 (z10 : Int), .int .u32 (z11 : Int), .int .u32 (z12 : Int), .int .u32 (z13 : Int), .int .u32 (z14 : Int), .int .u32 (z15 : Int)]) ?_ ?_ ?_
      · simp [results, Try.results61, go_sem, c0, c1, c2, c3, c4, c5, c6, c7, c8, c9, c10, c11, c12, c13, c14, c15]
      · rfl
      · exact ⟨rfl, hbe⟩
end Go.Proofs.Ytjlimdiimdihfaa
