/- Layer 5: lives. -/
import Derived.Test.YteglbehjokldjaaKc
namespace Go.Proofs.Yteglbehjokldjaa
open Go.RowKit

set_option maxRecDepth 100000 in
theorem first_sec : secB (putB PowS.new (List.replicate (64 * 2) 0) 0 [1]) 0 = 1 :: List.replicate 63 0 := by decide +kernel
set_option maxHeartbeats 2000000 in
set_option maxRecDepth 100000 in
theorem klives (w : World) : Calls Try.prog 14 #[] w fun e w' => e = .returned (.bool true) ∧ Below w.heap.size w w' := by
  go_enter Try.func14, Try.ntmps14
  go_wp2_with fail
  refine (pow_new w).mono ?_
  rintro e w1 ⟨pg, rfl, hpg, hp, hb1⟩
  go_wp2_with fail
  refine (dnew_ok w1 2 pg _ hp (by omega) (by omega)).mono ?_
  rintro e w2 ⟨g, gs, rfl, hg, hgs, hne, hD, hb2⟩
  have hb := below_tr hb1 hb2
  go_wp2_with fail
  have hrd := Rd.new w2 #[.int .u8 1] 5
  have hD' : Dk (w2.alloc (.cells #[.int .u8 1] 5)) g pg gs 2 PowS.new (List.replicate (64 * 2) 0) := hD.below (below_al (Below.refl _ _) _)
  have hb' := below_al hb (.cells #[.int .u8 1] 5)
  refine (dput_ok _ g pg gs 2 PowS.new _ hD' 0 (by omega) _ 1 1 [1] rfl (by omega) hrd).mono ?_
  rintro e w3 ⟨rfl, hD3, hF3⟩
  have hgo : PowS.new.gone 64 = (64, 0) := by decide +kernel
  rw [hgo]
  simp only
  have hg1 : w.heap.size ≤ gs := Nat.le_trans hb1.size hgs
  have hb3 : Below w.heap.size w w3 := hb'.trans (hF3.below (by intro x hx; simp at hx; omega) hb'.size)
  go_wp2_with fail
  refine (dget_ok w3 g pg gs 2 _ _ hD3 0 (by omega) (by decide +kernel)).mono ?_
  rintro e w4 ⟨A, rfl, hown, hb4⟩
  rw [first_sec] at hown
  obtain ⟨ga, cap, hv, _, _⟩ := hown.form (by omega)
  obtain rfl : A = some ⟨ga, 0, none⟩ := by injection hv
  have x0 : w4.cell? ⟨ga, 0, none⟩ = some (.int .u8 1) := by rw [hown.cellAt 0 (by omega)]; rfl
  have x1 : w4.cell? ⟨ga, 1, none⟩ = some (.int .u8 0) := by rw [hown.cellAt 1 (by omega)]; rfl
  have hD4 := hD3.below hb4
  have hL := Lib.hid (dlen_any w4 g pg gs 2 _ _ hD4)
  have hbb := below_tr hb3 hb4
  clear hv hown hD4 hD3 hD hD' hp
  go_wp2_with (go_at_call 17; refine (hL.out).mono ?_; rintro e w5 ⟨rfl, rfl⟩)
  go_ret
  exact ⟨rfl, hbb⟩
end Go.Proofs.Yteglbehjokldjaa
