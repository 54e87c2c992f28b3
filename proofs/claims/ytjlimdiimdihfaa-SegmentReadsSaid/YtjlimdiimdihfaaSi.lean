/- Blocks of a segment: the document's. -/
import Derived.Test.YtjlimdiimdihfaaSh
namespace Go.Proofs.Ytjlimdiimdihfaa
open Go.RowKit

def blkV (k a b c d e : Int) (L : List UInt8) : Value := .agg #[.int .u8 k, .int .i64 a, .int .i64 b, .int .i64 c, .int .i64 d, .int .i64 e, .string ⟨L.toArray⟩]
set_option maxHeartbeats 4000000 in
set_option maxRecDepth 100000 in
set_option linter.unusedSimpArgs false in
theorem g_rightD (H : Hp) (k : Int) (L : List UInt8) (hk : k = 68) : GCalls Try.prog 28 [.agg #[.int .u8 k, .int .i64 0, .int .i64 0, .int .i64 0, .int .i64 0, .int .i64 0, .string ⟨L.toArray⟩]] [] H fun v H' => v = .bool (decide (1 ≤ L.length ∧ L.length ≤ 160)) ∧ HExt [] H H' := by
  subst hk
  refine GCalls.body tab_is Try.func28 rfl Try.results28 Try.ntmps28 (by simp) ?_ ?_
  · first | (intro _ h; cases h; done) | (simp; done) | (simp; omega) | (intro i hi; simp at hi; rcases hi with rfl | rfl <;> omega) | (intro i hi; simp at hi; rcases hi with rfl | rfl | rfl <;> omega)
  focus
    refine GWP.seq ?_
    refine GWP.region ?_
    focus
      refine GOps.w1 rfl rfl rfl rfl (gop_box' (id := ?_) ?_ rfl rfl rfl) ?_
      rotate_left 1
      · rfl
    refine GOps.r rfl rfl rfl rfl (grd_assign rfl rfl) ?_
    refine GOps.nil ?_
    refine GWP.seq ?_
    refine GWP.seq ?_
    refine GWP.region ?_
    refine GOps.r rfl rfl rfl rfl (grd_assign rfl rfl) ?_
    refine GOps.nil ?_
    refine GWP.block ?_
    refine GWP.loopN 6 ?_
    refine GRounds.step ?_
    refine GWP.seq ?_
    refine GWP.seq ?_
    refine GWP.region ?_
    refine GOps.r rfl rfl rfl rfl (grd_move rfl rfl) ?_
    refine GOps.r rfl rfl rfl rfl (grd_lss rfl rfl rfl) ?_
    refine GOps.nil ?_
    refine GWP.cond_t rfl ?_ ?_
    · exact decide_eq_true (by omega)
    refine GWP.skip ?_
    refine GWP.seq ?_
    refine GWP.block ?_
    refine GWP.seq ?_
    refine GWP.region ?_
    refine GOps.r rfl rfl rfl rfl (grd_move rfl rfl) ?_
    refine GOps.r rfl rfl rfl rfl (grd_fieldAddr tab_is rfl rfl rfl rfl rfl) ?_
    refine GOps.r rfl rfl rfl rfl (grd_indexAddrA1 tab_is rfl rfl rfl rfl rfl ?_) ?_
    · simp; done
    focus
      refine GOps.r rfl rfl rfl rfl (grd_load1 (b := ?_) (v := ?_) tab_is rfl rfl rfl rfl ?_ ?_) ?_
      rotate_left 2
      · exact Hp.at_push_eq
      · rfl
    refine GOps.r rfl rfl rfl rfl (grd_lss rfl rfl rfl) ?_
    refine GOps.r rfl rfl rfl rfl (grd_move rfl rfl) ?_
    refine GOps.take rfl rfl ?_ ?_
    · simp; done
    refine GOps.r rfl rfl rfl rfl (grd_move rfl rfl) ?_
    refine GOps.take rfl rfl ?_ ?_
    · simp; done
    refine GOps.r rfl rfl rfl rfl (grd_fieldAddr tab_is rfl rfl rfl rfl rfl) ?_
    refine GOps.take rfl rfl ?_ ?_
    · simp; done
    refine GOps.r rfl rfl rfl rfl (grd_indexAddrA1 tab_is rfl rfl rfl rfl rfl ?_) ?_
    · simp; done
    refine GOps.take rfl rfl ?_ ?_
    · simp; done
    focus
      refine GOps.r rfl rfl rfl rfl (grd_load1 (b := ?_) (v := ?_) tab_is rfl rfl rfl rfl ?_ ?_) ?_
      rotate_left 2
      · exact Hp.at_push_eq
      · rfl
    refine GOps.take rfl rfl ?_ ?_
    · simp; done
    refine GOps.r rfl rfl rfl rfl (grd_gtr rfl rfl rfl) ?_
    refine GOps.r rfl rfl rfl rfl (grd_pick_f rfl rfl ?_ rfl) ?_
    · exact decide_eq_false (by omega)
    refine GOps.nil ?_
    refine GWP.cond_f rfl ?_ ?_
    · exact decide_eq_false (by omega)
    refine GWP.skip ?_
    refine GWP.region ?_
    refine GOps.r rfl rfl rfl rfl (grd_move rfl rfl) ?_
    refine GOps.r rfl rfl rfl rfl (grd_add64 rfl rfl rfl ?_) ?_
    · omega
    refine GOps.r rfl rfl rfl rfl (grd_assign rfl rfl) ?_
    refine GOps.nil ?_
    refine GRounds.step ?_
    refine GWP.seq ?_
    refine GWP.seq ?_
    refine GWP.region ?_
    refine GOps.r rfl rfl rfl rfl (grd_move rfl rfl) ?_
    refine GOps.r rfl rfl rfl rfl (grd_lss rfl rfl rfl) ?_
    refine GOps.nil ?_
    refine GWP.cond_t rfl ?_ ?_
    · exact decide_eq_true (by omega)
    refine GWP.skip ?_
    refine GWP.seq ?_
    refine GWP.block ?_
    refine GWP.seq ?_
    refine GWP.region ?_
    refine GOps.r rfl rfl rfl rfl (grd_move rfl rfl) ?_
    refine GOps.r rfl rfl rfl rfl (grd_fieldAddr tab_is rfl rfl rfl rfl rfl) ?_
    refine GOps.r rfl rfl rfl rfl (grd_indexAddrA1 tab_is rfl rfl rfl rfl rfl ?_) ?_
    · simp; done
    focus
      refine GOps.r rfl rfl rfl rfl (grd_load1 (b := ?_) (v := ?_) tab_is rfl rfl rfl rfl ?_ ?_) ?_
      rotate_left 2
      · exact Hp.at_push_eq
      · rfl
    refine GOps.r rfl rfl rfl rfl (grd_lss rfl rfl rfl) ?_
    refine GOps.r rfl rfl rfl rfl (grd_move rfl rfl) ?_
    refine GOps.take rfl rfl ?_ ?_
    · simp; done
    refine GOps.r rfl rfl rfl rfl (grd_move rfl rfl) ?_
    refine GOps.take rfl rfl ?_ ?_
    · simp; done
    refine GOps.r rfl rfl rfl rfl (grd_fieldAddr tab_is rfl rfl rfl rfl rfl) ?_
    refine GOps.take rfl rfl ?_ ?_
    · simp; done
    refine GOps.r rfl rfl rfl rfl (grd_indexAddrA1 tab_is rfl rfl rfl rfl rfl ?_) ?_
    · simp; done
    refine GOps.take rfl rfl ?_ ?_
    · simp; done
    focus
      refine GOps.r rfl rfl rfl rfl (grd_load1 (b := ?_) (v := ?_) tab_is rfl rfl rfl rfl ?_ ?_) ?_
      rotate_left 2
      · exact Hp.at_push_eq
      · rfl
    refine GOps.take rfl rfl ?_ ?_
    · simp; done
    refine GOps.r rfl rfl rfl rfl (grd_gtr rfl rfl rfl) ?_
    refine GOps.r rfl rfl rfl rfl (grd_pick_f rfl rfl ?_ rfl) ?_
    · exact decide_eq_false (by omega)
    refine GOps.nil ?_
    refine GWP.cond_f rfl ?_ ?_
    · exact decide_eq_false (by omega)
    refine GWP.skip ?_
    refine GWP.region ?_
    refine GOps.r rfl rfl rfl rfl (grd_move rfl rfl) ?_
    refine GOps.r rfl rfl rfl rfl (grd_add64 rfl rfl rfl ?_) ?_
    · omega
    refine GOps.r rfl rfl rfl rfl (grd_assign rfl rfl) ?_
    refine GOps.nil ?_
    refine GRounds.step ?_
    refine GWP.seq ?_
    refine GWP.seq ?_
    refine GWP.region ?_
    refine GOps.r rfl rfl rfl rfl (grd_move rfl rfl) ?_
    refine GOps.r rfl rfl rfl rfl (grd_lss rfl rfl rfl) ?_
    refine GOps.nil ?_
    refine GWP.cond_t rfl ?_ ?_
    · exact decide_eq_true (by omega)
    refine GWP.skip ?_
    refine GWP.seq ?_
    refine GWP.block ?_
    refine GWP.seq ?_
    refine GWP.region ?_
    refine GOps.r rfl rfl rfl rfl (grd_move rfl rfl) ?_
    refine GOps.r rfl rfl rfl rfl (grd_fieldAddr tab_is rfl rfl rfl rfl rfl) ?_
    refine GOps.r rfl rfl rfl rfl (grd_indexAddrA1 tab_is rfl rfl rfl rfl rfl ?_) ?_
    · simp; done
    focus
      refine GOps.r rfl rfl rfl rfl (grd_load1 (b := ?_) (v := ?_) tab_is rfl rfl rfl rfl ?_ ?_) ?_
      rotate_left 2
      · exact Hp.at_push_eq
      · rfl
    refine GOps.r rfl rfl rfl rfl (grd_lss rfl rfl rfl) ?_
    refine GOps.r rfl rfl rfl rfl (grd_move rfl rfl) ?_
    refine GOps.take rfl rfl ?_ ?_
    · simp; done
    refine GOps.r rfl rfl rfl rfl (grd_move rfl rfl) ?_
    refine GOps.take rfl rfl ?_ ?_
    · simp; done
    refine GOps.r rfl rfl rfl rfl (grd_fieldAddr tab_is rfl rfl rfl rfl rfl) ?_
    refine GOps.take rfl rfl ?_ ?_
    · simp; done
    refine GOps.r rfl rfl rfl rfl (grd_indexAddrA1 tab_is rfl rfl rfl rfl rfl ?_) ?_
    · simp; done
    refine GOps.take rfl rfl ?_ ?_
    · simp; done
    focus
      refine GOps.r rfl rfl rfl rfl (grd_load1 (b := ?_) (v := ?_) tab_is rfl rfl rfl rfl ?_ ?_) ?_
      rotate_left 2
      · exact Hp.at_push_eq
      · rfl
    refine GOps.take rfl rfl ?_ ?_
    · simp; done
    refine GOps.r rfl rfl rfl rfl (grd_gtr rfl rfl rfl) ?_
    refine GOps.r rfl rfl rfl rfl (grd_pick_f rfl rfl ?_ rfl) ?_
    · exact decide_eq_false (by omega)
    refine GOps.nil ?_
    refine GWP.cond_f rfl ?_ ?_
    · exact decide_eq_false (by omega)
    refine GWP.skip ?_
    refine GWP.region ?_
    refine GOps.r rfl rfl rfl rfl (grd_move rfl rfl) ?_
    refine GOps.r rfl rfl rfl rfl (grd_add64 rfl rfl rfl ?_) ?_
    · omega
    refine GOps.r rfl rfl rfl rfl (grd_assign rfl rfl) ?_
    refine GOps.nil ?_
    refine GRounds.step ?_
    refine GWP.seq ?_
    refine GWP.seq ?_
    refine GWP.region ?_
    refine GOps.r rfl rfl rfl rfl (grd_move rfl rfl) ?_
    refine GOps.r rfl rfl rfl rfl (grd_lss rfl rfl rfl) ?_
    refine GOps.nil ?_
    refine GWP.cond_t rfl ?_ ?_
    · exact decide_eq_true (by omega)
    refine GWP.skip ?_
    refine GWP.seq ?_
    refine GWP.block ?_
    refine GWP.seq ?_
    refine GWP.region ?_
    refine GOps.r rfl rfl rfl rfl (grd_move rfl rfl) ?_
    refine GOps.r rfl rfl rfl rfl (grd_fieldAddr tab_is rfl rfl rfl rfl rfl) ?_
    refine GOps.r rfl rfl rfl rfl (grd_indexAddrA1 tab_is rfl rfl rfl rfl rfl ?_) ?_
    · simp; done
    focus
      refine GOps.r rfl rfl rfl rfl (grd_load1 (b := ?_) (v := ?_) tab_is rfl rfl rfl rfl ?_ ?_) ?_
      rotate_left 2
      · exact Hp.at_push_eq
      · rfl
    refine GOps.r rfl rfl rfl rfl (grd_lss rfl rfl rfl) ?_
    refine GOps.r rfl rfl rfl rfl (grd_move rfl rfl) ?_
    refine GOps.take rfl rfl ?_ ?_
    · simp; done
    refine GOps.r rfl rfl rfl rfl (grd_move rfl rfl) ?_
    refine GOps.take rfl rfl ?_ ?_
    · simp; done
    refine GOps.r rfl rfl rfl rfl (grd_fieldAddr tab_is rfl rfl rfl rfl rfl) ?_
    refine GOps.take rfl rfl ?_ ?_
    · simp; done
    refine GOps.r rfl rfl rfl rfl (grd_indexAddrA1 tab_is rfl rfl rfl rfl rfl ?_) ?_
    · simp; done
    refine GOps.take rfl rfl ?_ ?_
    · simp; done
    focus
      refine GOps.r rfl rfl rfl rfl (grd_load1 (b := ?_) (v := ?_) tab_is rfl rfl rfl rfl ?_ ?_) ?_
      rotate_left 2
      · exact Hp.at_push_eq
      · rfl
    refine GOps.take rfl rfl ?_ ?_
    · simp; done
    refine GOps.r rfl rfl rfl rfl (grd_gtr rfl rfl rfl) ?_
    refine GOps.r rfl rfl rfl rfl (grd_pick_f rfl rfl ?_ rfl) ?_
    · exact decide_eq_false (by omega)
    refine GOps.nil ?_
    refine GWP.cond_f rfl ?_ ?_
    · exact decide_eq_false (by omega)
    refine GWP.skip ?_
    refine GWP.region ?_
    refine GOps.r rfl rfl rfl rfl (grd_move rfl rfl) ?_
    refine GOps.r rfl rfl rfl rfl (grd_add64 rfl rfl rfl ?_) ?_
    · omega
    refine GOps.r rfl rfl rfl rfl (grd_assign rfl rfl) ?_
    refine GOps.nil ?_
    refine GRounds.step ?_
    refine GWP.seq ?_
    refine GWP.seq ?_
    refine GWP.region ?_
    refine GOps.r rfl rfl rfl rfl (grd_move rfl rfl) ?_
    refine GOps.r rfl rfl rfl rfl (grd_lss rfl rfl rfl) ?_
    refine GOps.nil ?_
    refine GWP.cond_t rfl ?_ ?_
    · exact decide_eq_true (by omega)
    refine GWP.skip ?_
    refine GWP.seq ?_
    refine GWP.block ?_
    refine GWP.seq ?_
    refine GWP.region ?_
    refine GOps.r rfl rfl rfl rfl (grd_move rfl rfl) ?_
    refine GOps.r rfl rfl rfl rfl (grd_fieldAddr tab_is rfl rfl rfl rfl rfl) ?_
    refine GOps.r rfl rfl rfl rfl (grd_indexAddrA1 tab_is rfl rfl rfl rfl rfl ?_) ?_
    · simp; done
    focus
      refine GOps.r rfl rfl rfl rfl (grd_load1 (b := ?_) (v := ?_) tab_is rfl rfl rfl rfl ?_ ?_) ?_
      rotate_left 2
      · exact Hp.at_push_eq
      · rfl
    refine GOps.r rfl rfl rfl rfl (grd_lss rfl rfl rfl) ?_
    refine GOps.r rfl rfl rfl rfl (grd_move rfl rfl) ?_
    refine GOps.take rfl rfl ?_ ?_
    · simp; done
    refine GOps.r rfl rfl rfl rfl (grd_move rfl rfl) ?_
    refine GOps.take rfl rfl ?_ ?_
    · simp; done
    refine GOps.r rfl rfl rfl rfl (grd_fieldAddr tab_is rfl rfl rfl rfl rfl) ?_
    refine GOps.take rfl rfl ?_ ?_
    · simp; done
    refine GOps.r rfl rfl rfl rfl (grd_indexAddrA1 tab_is rfl rfl rfl rfl rfl ?_) ?_
    · simp; done
    refine GOps.take rfl rfl ?_ ?_
    · simp; done
    focus
      refine GOps.r rfl rfl rfl rfl (grd_load1 (b := ?_) (v := ?_) tab_is rfl rfl rfl rfl ?_ ?_) ?_
      rotate_left 2
      · exact Hp.at_push_eq
      · rfl
    refine GOps.take rfl rfl ?_ ?_
    · simp; done
    refine GOps.r rfl rfl rfl rfl (grd_gtr rfl rfl rfl) ?_
    refine GOps.r rfl rfl rfl rfl (grd_pick_f rfl rfl ?_ rfl) ?_
    · exact decide_eq_false (by omega)
    refine GOps.nil ?_
    refine GWP.cond_f rfl ?_ ?_
    · exact decide_eq_false (by omega)
    refine GWP.skip ?_
    refine GWP.region ?_
    refine GOps.r rfl rfl rfl rfl (grd_move rfl rfl) ?_
    refine GOps.r rfl rfl rfl rfl (grd_add64 rfl rfl rfl ?_) ?_
    · omega
    refine GOps.r rfl rfl rfl rfl (grd_assign rfl rfl) ?_
    refine GOps.nil ?_
    refine GRounds.step ?_
    refine GWP.seq ?_
    refine GWP.seq ?_
    refine GWP.region ?_
    refine GOps.r rfl rfl rfl rfl (grd_move rfl rfl) ?_
    refine GOps.r rfl rfl rfl rfl (grd_lss rfl rfl rfl) ?_
    refine GOps.nil ?_
    refine GWP.cond_f rfl ?_ ?_
    · exact decide_eq_false (by omega)
    refine GWP.exit ?_
    refine GWP.seq ?_
    refine GWP.seq ?_
    refine GWP.region ?_
    refine GOps.r rfl rfl rfl rfl (grd_fieldAddr tab_is rfl rfl rfl rfl rfl) ?_
    focus
      refine GOps.r rfl rfl rfl rfl (grd_load1 (b := ?_) (v := ?_) tab_is rfl rfl rfl rfl ?_ ?_) ?_
      rotate_left 2
      · exact Hp.at_push_eq
      · rfl
    refine GOps.nil ?_
    refine GWP.block ?_
    refine GWP.seq ?_
    refine GWP.seq ?_
    refine GWP.region ?_
    refine GOps.r rfl rfl rfl rfl (grd_eql rfl rfl rfl) ?_
    refine GOps.r rfl rfl rfl rfl (grd_assign rfl rfl) ?_
    refine GOps.nil ?_
    refine GWP.cond_f rfl ?_ ?_
    · exact decide_eq_false (by omega)
    refine GWP.region ?_
    refine GOps.r rfl rfl rfl rfl (grd_eql rfl rfl rfl) ?_
    refine GOps.r rfl rfl rfl rfl (grd_assign rfl rfl) ?_
    refine GOps.nil ?_
    refine GWP.cond_f rfl ?_ ?_
    · exact decide_eq_false (by omega)
    refine GWP.seq ?_
    refine GWP.region ?_
    refine GOps.r rfl rfl rfl rfl (grd_eql rfl rfl rfl) ?_
    refine GOps.r rfl rfl rfl rfl (grd_assign rfl rfl) ?_
    refine GOps.nil ?_
    refine GWP.cond_t rfl ?_ ?_
    · exact decide_eq_true (by omega)
    refine GWP.seq ?_
    refine GWP.region ?_
    refine GOps.r rfl rfl rfl rfl (grd_fieldAddr tab_is rfl rfl rfl rfl rfl) ?_
    focus
      refine GOps.r rfl rfl rfl rfl (grd_loadNK (b := ?_) (cs := ?_) tab_is rfl rfl rfl rfl ?_ ?_ ?_) ?_
      rotate_left 2
      · exact Hp.at_push_eq
      · exact Nat.le_of_ble_eq_true rfl
      · simp [Value.cells]; rfl
    focus
      refine GOps.r rfl rfl rfl rfl (grd_buildA (cs := ?_) tab_is rfl rfl rfl ?_ rfl ?_) ?_
      rotate_left 1
      · decide
      · simp [gfill, gsets, Value.cells]; rfl
    focus
      refine GOps.r rfl rfl rfl rfl (grd_aeqlK (b := ?_) tab_is rfl rfl rfl rfl rfl rfl ?_ ?_ ?_) ?_
      rotate_left 1
      · rfl
      · rfl
      · simp [lEq, cEq]; rfl
    refine GOps.r rfl rfl rfl rfl (grd_move rfl rfl) ?_
    refine GOps.take rfl rfl ?_ ?_
    · simp; done
    refine GOps.r rfl rfl rfl rfl (grd_fieldAddr tab_is rfl rfl rfl rfl rfl) ?_
    refine GOps.take rfl rfl ?_ ?_
    · simp; done
    focus
      refine GOps.r rfl rfl rfl rfl (grd_load1 (b := ?_) (v := ?_) tab_is rfl rfl rfl rfl ?_ ?_) ?_
      rotate_left 2
      · exact Hp.at_push_eq
      · rfl
    refine GOps.take rfl rfl ?_ ?_
    · simp; done
    refine GOps.r rfl rfl rfl rfl (grd_lenS tab_is rfl rfl rfl rfl rfl) ?_
    refine GOps.take rfl rfl ?_ ?_
    · simp; done
    refine GOps.r rfl rfl rfl rfl (grd_geq rfl rfl rfl) ?_
    refine GOps.r rfl rfl rfl rfl (grd_pick_t rfl rfl ?_ rfl) ?_
    · with_reducible rfl
    refine GOps.r rfl rfl rfl rfl (grd_move rfl rfl) ?_
    refine GOps.split rfl rfl (fun a1 => ?_) (fun a1 => ?_)
    simp only [beq_true, beq_false, Bool.not_true, Bool.not_false, Bool.not_eq_true', Bool.not_eq_false', decide_eq_true_eq, decide_eq_false_iff_not] at a1
    refine GOps.take rfl rfl ?_ ?_
    · exact beq_iff_eq.2 (decide_eq_true (by assumption))
    refine GOps.r rfl rfl rfl rfl (grd_fieldAddr tab_is rfl rfl rfl rfl rfl) ?_
    refine GOps.take rfl rfl ?_ ?_
    · exact beq_iff_eq.2 (decide_eq_true (by assumption))
    focus
      refine GOps.r rfl rfl rfl rfl (grd_load1 (b := ?_) (v := ?_) tab_is rfl rfl rfl rfl ?_ ?_) ?_
      rotate_left 2
      · exact Hp.at_push_eq
      · rfl
    refine GOps.take rfl rfl ?_ ?_
    · exact beq_iff_eq.2 (decide_eq_true (by assumption))
    refine GOps.r rfl rfl rfl rfl (grd_lenS tab_is rfl rfl rfl rfl rfl) ?_
    refine GOps.take rfl rfl ?_ ?_
    · exact beq_iff_eq.2 (decide_eq_true (by assumption))
    refine GOps.r rfl rfl rfl rfl (grd_leq rfl rfl rfl) ?_
    refine GOps.r rfl rfl rfl rfl (grd_pick_t rfl rfl ?_ rfl) ?_
    · exact decide_eq_true (by assumption)
    refine GOps.r rfl rfl rfl rfl (grd_assign rfl rfl) ?_
    refine GOps.nil ?_
    refine GWP.ret ?_
    refine ⟨_, .one rfl, ?_⟩
    refine ⟨?_, ?_⟩
    rotate_left 1
    refine HExt.push ?_
    · exact HExt.refl _ _
    simp only [beq_true, beq_false, Bool.not_true, Bool.not_false, Bool.not_eq_true', Bool.not_eq_false', decide_eq_true_eq, decide_eq_false_iff_not] at a1
    refine GOps.no rfl ?_ rfl rfl ?_
    · exact beq_eq_false_iff_ne.2 (by rw [decide_eq_false (by assumption)]; decide)
    refine GOps.no rfl ?_ rfl rfl ?_
    · exact beq_eq_false_iff_ne.2 (by rw [decide_eq_false (by assumption)]; decide)
    refine GOps.no rfl ?_ rfl rfl ?_
    · exact beq_eq_false_iff_ne.2 (by rw [decide_eq_false (by assumption)]; decide)
    refine GOps.no rfl ?_ rfl rfl ?_
    · exact beq_eq_false_iff_ne.2 (by rw [decide_eq_false (by assumption)]; decide)
    refine GOps.r rfl rfl rfl rfl (grd_pick_f rfl rfl ?_ rfl) ?_
    · exact decide_eq_false (by assumption)
    refine GOps.r rfl rfl rfl rfl (grd_assign rfl rfl) ?_
    refine GOps.nil ?_
    refine GWP.ret ?_
    refine ⟨_, .one rfl, ?_⟩
    refine ⟨?_, ?_⟩
    rotate_left 1
    refine HExt.push ?_
    · exact HExt.refl _ _
  · refine congrArg Value.bool ?_
    rw [decide_eq_decide]
    simp [ByteArray.size] at a1 ⊢
    omega
  · refine congrArg Value.bool (decide_eq_false ?_).symm
    simp [ByteArray.size] at a1
    omega
set_option maxHeartbeats 4000000 in
set_option maxRecDepth 100000 in
set_option linter.unusedSimpArgs false in
theorem g_rightN (H : Hp) (k a b c d e : Int) (hk : k ≠ 68) (ha : 0 ≤ a ∧ a ≤ 1073741824) (hb : 0 ≤ b ∧ b ≤ 1073741824) (hc : 0 ≤ c ∧ c ≤ 1073741824) (hd : 0 ≤ d ∧ d ≤ 1073741824) (he : 0 ≤ e ∧ e ≤ 1073741824) : GCalls Try.prog 28 [.agg #[.int .u8 k, .int .i64 a, .int .i64 b, .int .i64 c, .int .i64 d, .int .i64 e, .string ⟨([] : List UInt8).toArray⟩]] [] H fun v H' => v = .bool (decide (k = 72 ∨ k = 84)) ∧ HExt [] H H' := by
  refine GCalls.body tab_is Try.func28 rfl Try.results28 Try.ntmps28 (by simp) ?_ ?_
  · first | (intro _ h; cases h; done) | (simp; done) | (simp; omega) | (intro i hi; simp at hi; rcases hi with rfl | rfl <;> omega) | (intro i hi; simp at hi; rcases hi with rfl | rfl | rfl <;> omega)
  focus
    refine GWP.seq ?_
    refine GWP.region ?_
    focus
      refine GOps.w1 rfl rfl rfl rfl (gop_box' (id := ?_) ?_ rfl rfl rfl) ?_
      rotate_left 1
      · rfl
    refine GOps.r rfl rfl rfl rfl (grd_assign rfl rfl) ?_
    refine GOps.nil ?_
    refine GWP.seq ?_
    refine GWP.seq ?_
    refine GWP.region ?_
    refine GOps.r rfl rfl rfl rfl (grd_assign rfl rfl) ?_
    refine GOps.nil ?_
    refine GWP.block ?_
    refine GWP.loopN 6 ?_
    refine GRounds.step ?_
    refine GWP.seq ?_
    refine GWP.seq ?_
    refine GWP.region ?_
    refine GOps.r rfl rfl rfl rfl (grd_move rfl rfl) ?_
    refine GOps.r rfl rfl rfl rfl (grd_lss rfl rfl rfl) ?_
    refine GOps.nil ?_
    refine GWP.cond_t rfl ?_ ?_
    · exact decide_eq_true (by omega)
    refine GWP.skip ?_
    refine GWP.seq ?_
    refine GWP.block ?_
    refine GWP.seq ?_
    refine GWP.region ?_
    refine GOps.r rfl rfl rfl rfl (grd_move rfl rfl) ?_
    refine GOps.r rfl rfl rfl rfl (grd_fieldAddr tab_is rfl rfl rfl rfl rfl) ?_
    refine GOps.r rfl rfl rfl rfl (grd_indexAddrA1 tab_is rfl rfl rfl rfl rfl ?_) ?_
    · simp; done
    focus
      refine GOps.r rfl rfl rfl rfl (grd_load1 (b := ?_) (v := ?_) tab_is rfl rfl rfl rfl ?_ ?_) ?_
      rotate_left 2
      · exact Hp.at_push_eq
      · rfl
    refine GOps.r rfl rfl rfl rfl (grd_lss rfl rfl rfl) ?_
    refine GOps.r rfl rfl rfl rfl (grd_move rfl rfl) ?_
    refine GOps.take rfl rfl ?_ ?_
    · simp; omega
    refine GOps.r rfl rfl rfl rfl (grd_move rfl rfl) ?_
    refine GOps.take rfl rfl ?_ ?_
    · simp; omega
    refine GOps.r rfl rfl rfl rfl (grd_fieldAddr tab_is rfl rfl rfl rfl rfl) ?_
    refine GOps.take rfl rfl ?_ ?_
    · simp; omega
    refine GOps.r rfl rfl rfl rfl (grd_indexAddrA1 tab_is rfl rfl rfl rfl rfl ?_) ?_
    · simp; done
    refine GOps.take rfl rfl ?_ ?_
    · simp; omega
    focus
      refine GOps.r rfl rfl rfl rfl (grd_load1 (b := ?_) (v := ?_) tab_is rfl rfl rfl rfl ?_ ?_) ?_
      rotate_left 2
      · exact Hp.at_push_eq
      · rfl
    refine GOps.take rfl rfl ?_ ?_
    · simp; omega
    refine GOps.r rfl rfl rfl rfl (grd_gtr rfl rfl rfl) ?_
    refine GOps.r rfl rfl rfl rfl (grd_pick_f rfl rfl ?_ rfl) ?_
    · exact decide_eq_false (by omega)
    refine GOps.nil ?_
    refine GWP.cond_f rfl ?_ ?_
    · exact decide_eq_false (by omega)
    refine GWP.skip ?_
    refine GWP.region ?_
    refine GOps.r rfl rfl rfl rfl (grd_move rfl rfl) ?_
    refine GOps.r rfl rfl rfl rfl (grd_add64 rfl rfl rfl ?_) ?_
    · omega
    refine GOps.r rfl rfl rfl rfl (grd_assign rfl rfl) ?_
    refine GOps.nil ?_
    refine GRounds.step ?_
    refine GWP.seq ?_
    refine GWP.seq ?_
    refine GWP.region ?_
    refine GOps.r rfl rfl rfl rfl (grd_move rfl rfl) ?_
    refine GOps.r rfl rfl rfl rfl (grd_lss rfl rfl rfl) ?_
    refine GOps.nil ?_
    refine GWP.cond_t rfl ?_ ?_
    · exact decide_eq_true (by omega)
    refine GWP.skip ?_
    refine GWP.seq ?_
    refine GWP.block ?_
    refine GWP.seq ?_
    refine GWP.region ?_
    refine GOps.r rfl rfl rfl rfl (grd_move rfl rfl) ?_
    refine GOps.r rfl rfl rfl rfl (grd_fieldAddr tab_is rfl rfl rfl rfl rfl) ?_
    refine GOps.r rfl rfl rfl rfl (grd_indexAddrA1 tab_is rfl rfl rfl rfl rfl ?_) ?_
    · simp; done
    focus
      refine GOps.r rfl rfl rfl rfl (grd_load1 (b := ?_) (v := ?_) tab_is rfl rfl rfl rfl ?_ ?_) ?_
      rotate_left 2
      · exact Hp.at_push_eq
      · rfl
    refine GOps.r rfl rfl rfl rfl (grd_lss rfl rfl rfl) ?_
    refine GOps.r rfl rfl rfl rfl (grd_move rfl rfl) ?_
    refine GOps.take rfl rfl ?_ ?_
    · simp; omega
    refine GOps.r rfl rfl rfl rfl (grd_move rfl rfl) ?_
    refine GOps.take rfl rfl ?_ ?_
    · simp; omega
    refine GOps.r rfl rfl rfl rfl (grd_fieldAddr tab_is rfl rfl rfl rfl rfl) ?_
    refine GOps.take rfl rfl ?_ ?_
    · simp; omega
    refine GOps.r rfl rfl rfl rfl (grd_indexAddrA1 tab_is rfl rfl rfl rfl rfl ?_) ?_
    · simp; done
    refine GOps.take rfl rfl ?_ ?_
    · simp; omega
    focus
      refine GOps.r rfl rfl rfl rfl (grd_load1 (b := ?_) (v := ?_) tab_is rfl rfl rfl rfl ?_ ?_) ?_
      rotate_left 2
      · exact Hp.at_push_eq
      · rfl
    refine GOps.take rfl rfl ?_ ?_
    · simp; omega
    refine GOps.r rfl rfl rfl rfl (grd_gtr rfl rfl rfl) ?_
    refine GOps.r rfl rfl rfl rfl (grd_pick_f rfl rfl ?_ rfl) ?_
    · exact decide_eq_false (by omega)
    refine GOps.nil ?_
    refine GWP.cond_f rfl ?_ ?_
    · exact decide_eq_false (by omega)
    refine GWP.skip ?_
    refine GWP.region ?_
    refine GOps.r rfl rfl rfl rfl (grd_move rfl rfl) ?_
    refine GOps.r rfl rfl rfl rfl (grd_add64 rfl rfl rfl ?_) ?_
    · omega
    refine GOps.r rfl rfl rfl rfl (grd_assign rfl rfl) ?_
    refine GOps.nil ?_
    refine GRounds.step ?_
    refine GWP.seq ?_
    refine GWP.seq ?_
    refine GWP.region ?_
    refine GOps.r rfl rfl rfl rfl (grd_move rfl rfl) ?_
    refine GOps.r rfl rfl rfl rfl (grd_lss rfl rfl rfl) ?_
    refine GOps.nil ?_
    refine GWP.cond_t rfl ?_ ?_
    · exact decide_eq_true (by omega)
    refine GWP.skip ?_
    refine GWP.seq ?_
    refine GWP.block ?_
    refine GWP.seq ?_
    refine GWP.region ?_
    refine GOps.r rfl rfl rfl rfl (grd_move rfl rfl) ?_
    refine GOps.r rfl rfl rfl rfl (grd_fieldAddr tab_is rfl rfl rfl rfl rfl) ?_
    refine GOps.r rfl rfl rfl rfl (grd_indexAddrA1 tab_is rfl rfl rfl rfl rfl ?_) ?_
    · simp; done
    focus
      refine GOps.r rfl rfl rfl rfl (grd_load1 (b := ?_) (v := ?_) tab_is rfl rfl rfl rfl ?_ ?_) ?_
      rotate_left 2
      · exact Hp.at_push_eq
      · rfl
    refine GOps.r rfl rfl rfl rfl (grd_lss rfl rfl rfl) ?_
    refine GOps.r rfl rfl rfl rfl (grd_move rfl rfl) ?_
    refine GOps.take rfl rfl ?_ ?_
    · simp; omega
    refine GOps.r rfl rfl rfl rfl (grd_move rfl rfl) ?_
    refine GOps.take rfl rfl ?_ ?_
    · simp; omega
    refine GOps.r rfl rfl rfl rfl (grd_fieldAddr tab_is rfl rfl rfl rfl rfl) ?_
    refine GOps.take rfl rfl ?_ ?_
    · simp; omega
    refine GOps.r rfl rfl rfl rfl (grd_indexAddrA1 tab_is rfl rfl rfl rfl rfl ?_) ?_
    · simp; done
    refine GOps.take rfl rfl ?_ ?_
    · simp; omega
    focus
      refine GOps.r rfl rfl rfl rfl (grd_load1 (b := ?_) (v := ?_) tab_is rfl rfl rfl rfl ?_ ?_) ?_
      rotate_left 2
      · exact Hp.at_push_eq
      · rfl
    refine GOps.take rfl rfl ?_ ?_
    · simp; omega
    refine GOps.r rfl rfl rfl rfl (grd_gtr rfl rfl rfl) ?_
    refine GOps.r rfl rfl rfl rfl (grd_pick_f rfl rfl ?_ rfl) ?_
    · exact decide_eq_false (by omega)
    refine GOps.nil ?_
    refine GWP.cond_f rfl ?_ ?_
    · exact decide_eq_false (by omega)
    refine GWP.skip ?_
    refine GWP.region ?_
    refine GOps.r rfl rfl rfl rfl (grd_move rfl rfl) ?_
    refine GOps.r rfl rfl rfl rfl (grd_add64 rfl rfl rfl ?_) ?_
    · omega
    refine GOps.r rfl rfl rfl rfl (grd_assign rfl rfl) ?_
    refine GOps.nil ?_
    refine GRounds.step ?_
    refine GWP.seq ?_
    refine GWP.seq ?_
    refine GWP.region ?_
    refine GOps.r rfl rfl rfl rfl (grd_move rfl rfl) ?_
    refine GOps.r rfl rfl rfl rfl (grd_lss rfl rfl rfl) ?_
    refine GOps.nil ?_
    refine GWP.cond_t rfl ?_ ?_
    · exact decide_eq_true (by omega)
    refine GWP.skip ?_
    refine GWP.seq ?_
    refine GWP.block ?_
    refine GWP.seq ?_
    refine GWP.region ?_
    refine GOps.r rfl rfl rfl rfl (grd_move rfl rfl) ?_
    refine GOps.r rfl rfl rfl rfl (grd_fieldAddr tab_is rfl rfl rfl rfl rfl) ?_
    refine GOps.r rfl rfl rfl rfl (grd_indexAddrA1 tab_is rfl rfl rfl rfl rfl ?_) ?_
    · simp; done
    focus
      refine GOps.r rfl rfl rfl rfl (grd_load1 (b := ?_) (v := ?_) tab_is rfl rfl rfl rfl ?_ ?_) ?_
      rotate_left 2
      · exact Hp.at_push_eq
      · rfl
    refine GOps.r rfl rfl rfl rfl (grd_lss rfl rfl rfl) ?_
    refine GOps.r rfl rfl rfl rfl (grd_move rfl rfl) ?_
    refine GOps.take rfl rfl ?_ ?_
    · simp; omega
    refine GOps.r rfl rfl rfl rfl (grd_move rfl rfl) ?_
    refine GOps.take rfl rfl ?_ ?_
    · simp; omega
    refine GOps.r rfl rfl rfl rfl (grd_fieldAddr tab_is rfl rfl rfl rfl rfl) ?_
    refine GOps.take rfl rfl ?_ ?_
    · simp; omega
    refine GOps.r rfl rfl rfl rfl (grd_indexAddrA1 tab_is rfl rfl rfl rfl rfl ?_) ?_
    · simp; done
    refine GOps.take rfl rfl ?_ ?_
    · simp; omega
    focus
      refine GOps.r rfl rfl rfl rfl (grd_load1 (b := ?_) (v := ?_) tab_is rfl rfl rfl rfl ?_ ?_) ?_
      rotate_left 2
      · exact Hp.at_push_eq
      · rfl
    refine GOps.take rfl rfl ?_ ?_
    · simp; omega
    refine GOps.r rfl rfl rfl rfl (grd_gtr rfl rfl rfl) ?_
    refine GOps.r rfl rfl rfl rfl (grd_pick_f rfl rfl ?_ rfl) ?_
    · exact decide_eq_false (by omega)
    refine GOps.nil ?_
    refine GWP.cond_f rfl ?_ ?_
    · exact decide_eq_false (by omega)
    refine GWP.skip ?_
    refine GWP.region ?_
    refine GOps.r rfl rfl rfl rfl (grd_move rfl rfl) ?_
    refine GOps.r rfl rfl rfl rfl (grd_add64 rfl rfl rfl ?_) ?_
    · omega
    refine GOps.r rfl rfl rfl rfl (grd_assign rfl rfl) ?_
    refine GOps.nil ?_
    refine GRounds.step ?_
    refine GWP.seq ?_
    refine GWP.seq ?_
    refine GWP.region ?_
    refine GOps.r rfl rfl rfl rfl (grd_move rfl rfl) ?_
    refine GOps.r rfl rfl rfl rfl (grd_lss rfl rfl rfl) ?_
    refine GOps.nil ?_
    refine GWP.cond_t rfl ?_ ?_
    · exact decide_eq_true (by omega)
    refine GWP.skip ?_
    refine GWP.seq ?_
    refine GWP.block ?_
    refine GWP.seq ?_
    refine GWP.region ?_
    refine GOps.r rfl rfl rfl rfl (grd_move rfl rfl) ?_
    refine GOps.r rfl rfl rfl rfl (grd_fieldAddr tab_is rfl rfl rfl rfl rfl) ?_
    refine GOps.r rfl rfl rfl rfl (grd_indexAddrA1 tab_is rfl rfl rfl rfl rfl ?_) ?_
    · simp; done
    focus
      refine GOps.r rfl rfl rfl rfl (grd_load1 (b := ?_) (v := ?_) tab_is rfl rfl rfl rfl ?_ ?_) ?_
      rotate_left 2
      · exact Hp.at_push_eq
      · rfl
    refine GOps.r rfl rfl rfl rfl (grd_lss rfl rfl rfl) ?_
    refine GOps.r rfl rfl rfl rfl (grd_move rfl rfl) ?_
    refine GOps.take rfl rfl ?_ ?_
    · simp; omega
    refine GOps.r rfl rfl rfl rfl (grd_move rfl rfl) ?_
    refine GOps.take rfl rfl ?_ ?_
    · simp; omega
    refine GOps.r rfl rfl rfl rfl (grd_fieldAddr tab_is rfl rfl rfl rfl rfl) ?_
    refine GOps.take rfl rfl ?_ ?_
    · simp; omega
    refine GOps.r rfl rfl rfl rfl (grd_indexAddrA1 tab_is rfl rfl rfl rfl rfl ?_) ?_
    · simp; done
    refine GOps.take rfl rfl ?_ ?_
    · simp; omega
    focus
      refine GOps.r rfl rfl rfl rfl (grd_load1 (b := ?_) (v := ?_) tab_is rfl rfl rfl rfl ?_ ?_) ?_
      rotate_left 2
      · exact Hp.at_push_eq
      · rfl
    refine GOps.take rfl rfl ?_ ?_
    · simp; omega
    refine GOps.r rfl rfl rfl rfl (grd_gtr rfl rfl rfl) ?_
    refine GOps.r rfl rfl rfl rfl (grd_pick_f rfl rfl ?_ rfl) ?_
    · exact decide_eq_false (by omega)
    refine GOps.nil ?_
    refine GWP.cond_f rfl ?_ ?_
    · exact decide_eq_false (by omega)
    refine GWP.skip ?_
    refine GWP.region ?_
    refine GOps.r rfl rfl rfl rfl (grd_move rfl rfl) ?_
    refine GOps.r rfl rfl rfl rfl (grd_add64 rfl rfl rfl ?_) ?_
    · omega
    refine GOps.r rfl rfl rfl rfl (grd_assign rfl rfl) ?_
    refine GOps.nil ?_
    refine GRounds.step ?_
    refine GWP.seq ?_
    refine GWP.seq ?_
    refine GWP.region ?_
    refine GOps.r rfl rfl rfl rfl (grd_move rfl rfl) ?_
    refine GOps.r rfl rfl rfl rfl (grd_lss rfl rfl rfl) ?_
    refine GOps.nil ?_
    refine GWP.cond_f rfl ?_ ?_
    · exact decide_eq_false (by omega)
    refine GWP.exit ?_
    refine GWP.seq ?_
    refine GWP.seq ?_
    refine GWP.region ?_
    refine GOps.r rfl rfl rfl rfl (grd_fieldAddr tab_is rfl rfl rfl rfl rfl) ?_
    focus
      refine GOps.r rfl rfl rfl rfl (grd_load1 (b := ?_) (v := ?_) tab_is rfl rfl rfl rfl ?_ ?_) ?_
      rotate_left 2
      · exact Hp.at_push_eq
      · rfl
    refine GOps.nil ?_
    refine GWP.block ?_
    refine GWP.seq ?_
    refine GWP.seq ?_
    refine GWP.region ?_
    refine GOps.r rfl rfl rfl rfl (grd_eql rfl rfl rfl) ?_
    refine GOps.r rfl rfl rfl rfl (grd_assign rfl rfl) ?_
    refine GOps.nil ?_
    refine GWP.cond rfl (fun b1 => ?_) (fun b1 => ?_)
    simp only [beq_true, beq_false, Bool.not_true, Bool.not_false, Bool.not_eq_true', Bool.not_eq_false', decide_eq_true_eq, decide_eq_false_iff_not] at b1
    refine GWP.skip ?_
    refine GWP.cond_t rfl ?_ ?_
    · exact decide_eq_true (by assumption)
    refine GWP.seq ?_
    refine GWP.region ?_
    refine GOps.r rfl rfl rfl rfl (grd_fieldAddr tab_is rfl rfl rfl rfl rfl) ?_
    focus
      refine GOps.r rfl rfl rfl rfl (grd_load1 (b := ?_) (v := ?_) tab_is rfl rfl rfl rfl ?_ ?_) ?_
      rotate_left 2
      · exact Hp.at_push_eq
      · rfl
    refine GOps.r rfl rfl rfl rfl (grd_seql' rfl rfl rfl) ?_
    refine GOps.r rfl rfl rfl rfl (grd_assign rfl rfl) ?_
    refine GOps.nil ?_
    refine GWP.ret ?_
    refine ⟨_, .one rfl, ?_⟩
    refine ⟨?_, ?_⟩
    · (simp [*]; done)
    refine HExt.push ?_
    · exact HExt.refl _ _
    simp only [beq_true, beq_false, Bool.not_true, Bool.not_false, Bool.not_eq_true', Bool.not_eq_false', decide_eq_true_eq, decide_eq_false_iff_not] at b1
    refine GWP.region ?_
    refine GOps.r rfl rfl rfl rfl (grd_eql rfl rfl rfl) ?_
    refine GOps.r rfl rfl rfl rfl (grd_assign rfl rfl) ?_
    refine GOps.nil ?_
    refine GWP.cond rfl (fun b2 => ?_) (fun b2 => ?_)
    simp only [beq_true, beq_false, Bool.not_true, Bool.not_false, Bool.not_eq_true', Bool.not_eq_false', decide_eq_true_eq, decide_eq_false_iff_not] at b2
    refine GWP.seq ?_
    refine GWP.region ?_
    refine GOps.r rfl rfl rfl rfl (grd_fieldAddr tab_is rfl rfl rfl rfl rfl) ?_
    focus
      refine GOps.r rfl rfl rfl rfl (grd_load1 (b := ?_) (v := ?_) tab_is rfl rfl rfl rfl ?_ ?_) ?_
      rotate_left 2
      · exact Hp.at_push_eq
      · rfl
    refine GOps.r rfl rfl rfl rfl (grd_seql' rfl rfl rfl) ?_
    refine GOps.r rfl rfl rfl rfl (grd_assign rfl rfl) ?_
    refine GOps.nil ?_
    refine GWP.ret ?_
    refine ⟨_, .one rfl, ?_⟩
    refine ⟨?_, ?_⟩
    · (simp [*]; done)
    refine HExt.push ?_
    · exact HExt.refl _ _
    simp only [beq_true, beq_false, Bool.not_true, Bool.not_false, Bool.not_eq_true', Bool.not_eq_false', decide_eq_true_eq, decide_eq_false_iff_not] at b2
    refine GWP.seq ?_
    refine GWP.region ?_
    refine GOps.r rfl rfl rfl rfl (grd_eql rfl rfl rfl) ?_
    refine GOps.r rfl rfl rfl rfl (grd_assign rfl rfl) ?_
    refine GOps.nil ?_
    refine GWP.cond_f rfl ?_ ?_
    · exact decide_eq_false (by assumption)
    refine GWP.skip ?_
    refine GWP.seq ?_
    refine GWP.region ?_
    refine GOps.r rfl rfl rfl rfl (grd_assign rfl rfl) ?_
    refine GOps.nil ?_
    refine GWP.ret ?_
    refine ⟨_, .one rfl, ?_⟩
    refine ⟨?_, ?_⟩
    · (simp [*]; done)
    refine HExt.push ?_
    · exact HExt.refl _ _
set_option maxHeartbeats 4000000 in
set_option maxRecDepth 100000 in
set_option linter.unusedSimpArgs false in
theorem g_plain0 (H : Hp) : GCalls Try.prog 11 [.nilIface] [] H fun v H' => v = blkV 0 0 0 0 0 0 [] ∧ HExt [] H H' := by
  refine GCalls.body tab_is Try.func11 rfl Try.results11 Try.ntmps11 (by simp) ?_ ?_
  · first | (intro _ h; cases h; done) | (simp; done) | (simp; omega) | (intro i hi; simp at hi; rcases hi with rfl | rfl <;> omega) | (intro i hi; simp at hi; rcases hi with rfl | rfl | rfl <;> omega)
  focus
    refine GWP.seq ?_
    refine GWP.region ?_
    focus
      refine GOps.w1 rfl rfl rfl rfl (gop_alloc' (id := ?_) ?_ tab_is rfl rfl ?_) ?_
      rotate_left 1
      · rfl
      · decide
    refine GOps.nil ?_
    refine GWP.seq ?_
    refine GWP.seq ?_
    refine GWP.region ?_
    refine GOps.r rfl rfl rfl rfl (grd_move rfl rfl) ?_
    refine GOps.nil ?_
    refine GWP.block ?_
    refine GWP.seq ?_
    refine GWP.region ?_
    refine GOps.r rfl rfl rfl rfl (grd_assert0 tab_is rfl rfl rfl rfl rfl) ?_
    focus
      refine GOps.r rfl rfl rfl rfl (grd_extract (v := ?_) rfl rfl ?_) ?_
      rotate_left 1
      · simp only [List.getElem?_toArray, List.getElem?_cons_zero, List.getElem?_cons_succ]; rfl
    focus
      refine GOps.r rfl rfl rfl rfl (grd_extract (v := ?_) rfl rfl ?_) ?_
      rotate_left 1
      · simp only [List.getElem?_toArray, List.getElem?_cons_zero, List.getElem?_cons_succ]; rfl
    refine GOps.nil ?_
    refine GWP.cond_f rfl ?_ ?_
    · with_reducible rfl
    refine GWP.seq ?_
    refine GWP.region ?_
    refine GOps.r rfl rfl rfl rfl (grd_assert0 tab_is rfl rfl rfl rfl rfl) ?_
    focus
      refine GOps.r rfl rfl rfl rfl (grd_extract (v := ?_) rfl rfl ?_) ?_
      rotate_left 1
      · simp only [List.getElem?_toArray, List.getElem?_cons_zero, List.getElem?_cons_succ]; rfl
    focus
      refine GOps.r rfl rfl rfl rfl (grd_extract (v := ?_) rfl rfl ?_) ?_
      rotate_left 1
      · simp only [List.getElem?_toArray, List.getElem?_cons_zero, List.getElem?_cons_succ]; rfl
    refine GOps.nil ?_
    refine GWP.cond_f rfl ?_ ?_
    · with_reducible rfl
    refine GWP.seq ?_
    refine GWP.region ?_
    refine GOps.r rfl rfl rfl rfl (grd_assert0 tab_is rfl rfl rfl rfl rfl) ?_
    focus
      refine GOps.r rfl rfl rfl rfl (grd_extract (v := ?_) rfl rfl ?_) ?_
      rotate_left 1
      · simp only [List.getElem?_toArray, List.getElem?_cons_zero, List.getElem?_cons_succ]; rfl
    focus
      refine GOps.r rfl rfl rfl rfl (grd_extract (v := ?_) rfl rfl ?_) ?_
      rotate_left 1
      · simp only [List.getElem?_toArray, List.getElem?_cons_zero, List.getElem?_cons_succ]; rfl
    refine GOps.nil ?_
    refine GWP.cond_f rfl ?_ ?_
    · with_reducible rfl
    refine GWP.skip ?_
    refine GWP.seq ?_
    refine GWP.region ?_
    focus
      refine GOps.r rfl rfl rfl rfl (grd_build (cs := ?_) tab_is rfl rfl rfl ?_ rfl ?_) ?_
      rotate_left 1
      · decide
      · simp [gfill, gsets, Value.cells]; rfl
    focus
      refine GOps.s rfl rfl rfl (gop_storeC (b := ?_) (cs := ?_) tab_is rfl rfl ?_ rfl rfl ?_ ?_ ?_ ?_ ?_ ?_) ?_
      rotate_left 2
      · rfl
      · rfl
      · exact Hp.at_push_eq
      · rfl
      · decide
      · exact .inr (by simp)
      · simp [splice, Value.cells]; rfl
    refine GOps.nil ?_
    refine GWP.ret ?_
    focus
      refine ⟨_, (gres_cellNK (b := ?_) (cs := ?_) rfl rfl rfl ?_ ?_ ?_), ?_⟩
      rotate_left 2
      refine Hp.at_put_eq ?_
      · simp; done
      · decide
      · simp [Value.cells]; rfl
    refine ⟨?_, ?_⟩
    · rfl
    refine HExt.put ?_ ?_
    refine HExt.push ?_
    · exact HExt.refl _ _
    · exact .inr (by omega)
set_option maxHeartbeats 4000000 in
set_option maxRecDepth 100000 in
set_option linter.unusedSimpArgs false in
theorem g_plainH (H : Hp) (a b c d e : Int) : GCalls Try.prog 11 [.iface 63 (.agg #[.int .i64 a, .int .i64 b, .int .i64 c, .int .i64 d, .int .i64 e])] [] H fun v H' => v = blkV 72 a b c d e [] ∧ HExt [] H H' := by
  refine GCalls.body tab_is Try.func11 rfl Try.results11 Try.ntmps11 (by simp) ?_ ?_
  · first | (intro _ h; cases h; done) | (simp; done) | (simp; omega) | (intro i hi; simp at hi; rcases hi with rfl | rfl <;> omega) | (intro i hi; simp at hi; rcases hi with rfl | rfl | rfl <;> omega)
  focus
    refine GWP.seq ?_
    refine GWP.region ?_
    focus
      refine GOps.w1 rfl rfl rfl rfl (gop_alloc' (id := ?_) ?_ tab_is rfl rfl ?_) ?_
      rotate_left 1
      · rfl
      · decide
    refine GOps.nil ?_
    refine GWP.seq ?_
    refine GWP.seq ?_
    refine GWP.region ?_
    refine GOps.r rfl rfl rfl rfl (grd_move rfl rfl) ?_
    refine GOps.nil ?_
    refine GWP.block ?_
    refine GWP.seq ?_
    refine GWP.region ?_
    refine GOps.r rfl rfl rfl rfl (grd_assertY tab_is rfl rfl rfl rfl) ?_
    focus
      refine GOps.r rfl rfl rfl rfl (grd_extract (v := ?_) rfl rfl ?_) ?_
      rotate_left 1
      · simp only [List.getElem?_toArray, List.getElem?_cons_zero, List.getElem?_cons_succ]; rfl
    focus
      refine GOps.r rfl rfl rfl rfl (grd_extract (v := ?_) rfl rfl ?_) ?_
      rotate_left 1
      · simp only [List.getElem?_toArray, List.getElem?_cons_zero, List.getElem?_cons_succ]; rfl
    refine GOps.nil ?_
    refine GWP.cond_t rfl ?_ ?_
    · with_reducible rfl
    refine GWP.seq ?_
    refine GWP.region ?_
    focus
      refine GOps.w1 rfl rfl rfl rfl (gop_alloc' (id := ?_) ?_ tab_is rfl rfl ?_) ?_
      rotate_left 1
      · simp; rfl
      · decide
    focus
      refine GOps.s rfl rfl rfl (gop_storeC (b := ?_) (cs := ?_) tab_is rfl rfl ?_ rfl rfl ?_ ?_ ?_ ?_ ?_ ?_) ?_
      rotate_left 2
      · rfl
      · rfl
      refine Hp.at_push_id ?_
      · simp; done
      · rfl
      · exact Nat.le_of_ble_eq_true rfl
      · exact .inr (by simp)
      · simp [splice, Value.cells]; rfl
    refine GOps.nil ?_
    refine GWP.seq ?_
    refine GWP.region ?_
    refine GOps.r rfl rfl rfl rfl (grd_fieldAddr tab_is rfl rfl rfl rfl rfl) ?_
    focus
      refine GOps.r rfl rfl rfl rfl (grd_load1 (b := ?_) (v := ?_) tab_is rfl rfl rfl rfl ?_ ?_) ?_
      rotate_left 2
      refine Hp.at_put_eq ?_
      · simp; done
      · rfl
    refine GOps.r rfl rfl rfl rfl (grd_fieldAddr tab_is rfl rfl rfl rfl rfl) ?_
    focus
      refine GOps.r rfl rfl rfl rfl (grd_load1 (b := ?_) (v := ?_) tab_is rfl rfl rfl rfl ?_ ?_) ?_
      rotate_left 2
      refine Hp.at_put_eq ?_
      · simp; done
      · rfl
    refine GOps.r rfl rfl rfl rfl (grd_fieldAddr tab_is rfl rfl rfl rfl rfl) ?_
    focus
      refine GOps.r rfl rfl rfl rfl (grd_load1 (b := ?_) (v := ?_) tab_is rfl rfl rfl rfl ?_ ?_) ?_
      rotate_left 2
      refine Hp.at_put_eq ?_
      · simp; done
      · rfl
    refine GOps.r rfl rfl rfl rfl (grd_fieldAddr tab_is rfl rfl rfl rfl rfl) ?_
    focus
      refine GOps.r rfl rfl rfl rfl (grd_load1 (b := ?_) (v := ?_) tab_is rfl rfl rfl rfl ?_ ?_) ?_
      rotate_left 2
      refine Hp.at_put_eq ?_
      · simp; done
      · rfl
    refine GOps.r rfl rfl rfl rfl (grd_fieldAddr tab_is rfl rfl rfl rfl rfl) ?_
    focus
      refine GOps.r rfl rfl rfl rfl (grd_load1 (b := ?_) (v := ?_) tab_is rfl rfl rfl rfl ?_ ?_) ?_
      rotate_left 2
      refine Hp.at_put_eq ?_
      · simp; done
      · rfl
    focus
      refine GOps.r rfl rfl rfl rfl (grd_buildA (cs := ?_) tab_is rfl rfl rfl ?_ rfl ?_) ?_
      rotate_left 1
      · decide
      · simp [gfill, gsets, Value.cells]; rfl
    focus
      refine GOps.r rfl rfl rfl rfl (grd_build (cs := ?_) tab_is rfl rfl rfl ?_ rfl ?_) ?_
      rotate_left 1
      · decide
      · simp [gfill, gsets, Value.cells]; rfl
    focus
      refine GOps.s rfl rfl rfl (gop_storeC (b := ?_) (cs := ?_) tab_is rfl rfl ?_ rfl rfl ?_ ?_ ?_ ?_ ?_ ?_) ?_
      rotate_left 2
      · rfl
      · rfl
      refine (Hp.at_put_ne ?_).trans ?_
      · omega
      refine (Hp.at_push_lt ?_).trans ?_
      · simp; done
      · exact Hp.at_push_eq
      · rfl
      · exact Nat.le_of_ble_eq_true rfl
      · exact .inr (by simp)
      · simp [splice, Value.cells]; rfl
    refine GOps.nil ?_
    refine GWP.ret ?_
    focus
      refine ⟨_, (gres_cellNK (b := ?_) (cs := ?_) rfl rfl rfl ?_ ?_ ?_), ?_⟩
      rotate_left 2
      refine Hp.at_put_eq ?_
      · simp; omega
      · exact Nat.le_of_ble_eq_true rfl
      · simp [Value.cells]; rfl
    refine ⟨?_, ?_⟩
    · rfl
    refine HExt.put ?_ ?_
    refine HExt.put ?_ ?_
    refine HExt.push ?_
    refine HExt.push ?_
    · exact HExt.refl _ _
    · exact .inr (by omega)
    · exact .inr (by omega)
set_option maxHeartbeats 4000000 in
set_option maxRecDepth 100000 in
set_option linter.unusedSimpArgs false in
theorem g_plainT (H : Hp) (a b c d : Int) (l : Bool) : GCalls Try.prog 11 [.iface 65 (.agg #[.int .i64 a, .int .i64 b, .int .i64 c, .int .i64 d, .bool l])] [] H fun v H' => v = blkV 84 a b c d (if l then 1 else 0) [] ∧ HExt [] H H' := by
  cases l
  ·
    refine GCalls.body tab_is Try.func11 rfl Try.results11 Try.ntmps11 (by simp) ?_ ?_
    · first | (intro _ h; cases h; done) | (simp; done) | (simp; omega) | (intro i hi; simp at hi; rcases hi with rfl | rfl <;> omega) | (intro i hi; simp at hi; rcases hi with rfl | rfl | rfl <;> omega)
    focus
      refine GWP.seq ?_
      refine GWP.region ?_
      focus
        refine GOps.w1 rfl rfl rfl rfl (gop_alloc' (id := ?_) ?_ tab_is rfl rfl ?_) ?_
        rotate_left 1
        · rfl
        · decide
      refine GOps.nil ?_
      refine GWP.seq ?_
      refine GWP.seq ?_
      refine GWP.region ?_
      refine GOps.r rfl rfl rfl rfl (grd_move rfl rfl) ?_
      refine GOps.nil ?_
      refine GWP.block ?_
      refine GWP.seq ?_
      refine GWP.region ?_
      refine GOps.r rfl rfl rfl rfl (grd_assertN tab_is rfl rfl rfl rfl rfl (by decide)) ?_
      focus
        refine GOps.r rfl rfl rfl rfl (grd_extract (v := ?_) rfl rfl ?_) ?_
        rotate_left 1
        · simp only [List.getElem?_toArray, List.getElem?_cons_zero, List.getElem?_cons_succ]; rfl
      focus
        refine GOps.r rfl rfl rfl rfl (grd_extract (v := ?_) rfl rfl ?_) ?_
        rotate_left 1
        · simp only [List.getElem?_toArray, List.getElem?_cons_zero, List.getElem?_cons_succ]; rfl
      refine GOps.nil ?_
      refine GWP.cond_f rfl ?_ ?_
      · with_reducible rfl
      refine GWP.seq ?_
      refine GWP.region ?_
      refine GOps.r rfl rfl rfl rfl (grd_assertY tab_is rfl rfl rfl rfl) ?_
      focus
        refine GOps.r rfl rfl rfl rfl (grd_extract (v := ?_) rfl rfl ?_) ?_
        rotate_left 1
        · simp only [List.getElem?_toArray, List.getElem?_cons_zero, List.getElem?_cons_succ]; rfl
      focus
        refine GOps.r rfl rfl rfl rfl (grd_extract (v := ?_) rfl rfl ?_) ?_
        rotate_left 1
        · simp only [List.getElem?_toArray, List.getElem?_cons_zero, List.getElem?_cons_succ]; rfl
      refine GOps.nil ?_
      refine GWP.cond_t rfl ?_ ?_
      · with_reducible rfl
      refine GWP.seq ?_
      refine GWP.region ?_
      focus
        refine GOps.w1 rfl rfl rfl rfl (gop_alloc' (id := ?_) ?_ tab_is rfl rfl ?_) ?_
        rotate_left 1
        · simp; rfl
        · decide
      focus
        refine GOps.s rfl rfl rfl (gop_storeC (b := ?_) (cs := ?_) tab_is rfl rfl ?_ rfl rfl ?_ ?_ ?_ ?_ ?_ ?_) ?_
        rotate_left 2
        · rfl
        · rfl
        refine Hp.at_push_id ?_
        · simp; done
        · rfl
        · exact Nat.le_of_ble_eq_true rfl
        · exact .inr (by simp)
        · simp [splice, Value.cells]; rfl
      refine GOps.nil ?_
      refine GWP.seq ?_
      refine GWP.region ?_
      refine GOps.r rfl rfl rfl rfl (grd_assign rfl rfl) ?_
      refine GOps.nil ?_
      refine GWP.seq ?_
      refine GWP.seq ?_
      refine GWP.region ?_
      refine GOps.r rfl rfl rfl rfl (grd_fieldAddr tab_is rfl rfl rfl rfl rfl) ?_
      focus
        refine GOps.r rfl rfl rfl rfl (grd_load1 (b := ?_) (v := ?_) tab_is rfl rfl rfl rfl ?_ ?_) ?_
        rotate_left 2
        refine Hp.at_put_eq ?_
        · simp; done
        · rfl
      refine GOps.nil ?_
      refine GWP.cond_f rfl ?_ ?_
      · with_reducible rfl
      refine GWP.skip ?_
      refine GWP.seq ?_
      refine GWP.region ?_
      refine GOps.r rfl rfl rfl rfl (grd_fieldAddr tab_is rfl rfl rfl rfl rfl) ?_
      focus
        refine GOps.r rfl rfl rfl rfl (grd_load1 (b := ?_) (v := ?_) tab_is rfl rfl rfl rfl ?_ ?_) ?_
        rotate_left 2
        refine Hp.at_put_eq ?_
        · simp; done
        · rfl
      refine GOps.r rfl rfl rfl rfl (grd_fieldAddr tab_is rfl rfl rfl rfl rfl) ?_
      focus
        refine GOps.r rfl rfl rfl rfl (grd_load1 (b := ?_) (v := ?_) tab_is rfl rfl rfl rfl ?_ ?_) ?_
        rotate_left 2
        refine Hp.at_put_eq ?_
        · simp; done
        · rfl
      refine GOps.r rfl rfl rfl rfl (grd_fieldAddr tab_is rfl rfl rfl rfl rfl) ?_
      focus
        refine GOps.r rfl rfl rfl rfl (grd_load1 (b := ?_) (v := ?_) tab_is rfl rfl rfl rfl ?_ ?_) ?_
        rotate_left 2
        refine Hp.at_put_eq ?_
        · simp; done
        · rfl
      refine GOps.r rfl rfl rfl rfl (grd_fieldAddr tab_is rfl rfl rfl rfl rfl) ?_
      focus
        refine GOps.r rfl rfl rfl rfl (grd_load1 (b := ?_) (v := ?_) tab_is rfl rfl rfl rfl ?_ ?_) ?_
        rotate_left 2
        refine Hp.at_put_eq ?_
        · simp; done
        · rfl
      refine GOps.r rfl rfl rfl rfl (grd_move rfl rfl) ?_
      focus
        refine GOps.r rfl rfl rfl rfl (grd_buildA (cs := ?_) tab_is rfl rfl rfl ?_ rfl ?_) ?_
        rotate_left 1
        · decide
        · simp [gfill, gsets, Value.cells]; rfl
      focus
        refine GOps.r rfl rfl rfl rfl (grd_build (cs := ?_) tab_is rfl rfl rfl ?_ rfl ?_) ?_
        rotate_left 1
        · decide
        · simp [gfill, gsets, Value.cells]; rfl
      focus
        refine GOps.s rfl rfl rfl (gop_storeC (b := ?_) (cs := ?_) tab_is rfl rfl ?_ rfl rfl ?_ ?_ ?_ ?_ ?_ ?_) ?_
        rotate_left 2
        · rfl
        · rfl
        refine (Hp.at_put_ne ?_).trans ?_
        · omega
        refine (Hp.at_push_lt ?_).trans ?_
        · simp; done
        · exact Hp.at_push_eq
        · rfl
        · exact Nat.le_of_ble_eq_true rfl
        · exact .inr (by simp)
        · simp [splice, Value.cells]; rfl
      refine GOps.nil ?_
      refine GWP.ret ?_
      focus
        refine ⟨_, (gres_cellNK (b := ?_) (cs := ?_) rfl rfl rfl ?_ ?_ ?_), ?_⟩
        rotate_left 2
        refine Hp.at_put_eq ?_
        · simp; omega
        · exact Nat.le_of_ble_eq_true rfl
        · simp [Value.cells]; rfl
      refine ⟨?_, ?_⟩
      · rfl
      refine HExt.put ?_ ?_
      refine HExt.put ?_ ?_
      refine HExt.push ?_
      refine HExt.push ?_
      · exact HExt.refl _ _
      · exact .inr (by omega)
      · exact .inr (by omega)
  ·
    refine GCalls.body tab_is Try.func11 rfl Try.results11 Try.ntmps11 (by simp) ?_ ?_
    · first | (intro _ h; cases h; done) | (simp; done) | (simp; omega) | (intro i hi; simp at hi; rcases hi with rfl | rfl <;> omega) | (intro i hi; simp at hi; rcases hi with rfl | rfl | rfl <;> omega)
    focus
      refine GWP.seq ?_
      refine GWP.region ?_
      focus
        refine GOps.w1 rfl rfl rfl rfl (gop_alloc' (id := ?_) ?_ tab_is rfl rfl ?_) ?_
        rotate_left 1
        · rfl
        · decide
      refine GOps.nil ?_
      refine GWP.seq ?_
      refine GWP.seq ?_
      refine GWP.region ?_
      refine GOps.r rfl rfl rfl rfl (grd_move rfl rfl) ?_
      refine GOps.nil ?_
      refine GWP.block ?_
      refine GWP.seq ?_
      refine GWP.region ?_
      refine GOps.r rfl rfl rfl rfl (grd_assertN tab_is rfl rfl rfl rfl rfl (by decide)) ?_
      focus
        refine GOps.r rfl rfl rfl rfl (grd_extract (v := ?_) rfl rfl ?_) ?_
        rotate_left 1
        · simp only [List.getElem?_toArray, List.getElem?_cons_zero, List.getElem?_cons_succ]; rfl
      focus
        refine GOps.r rfl rfl rfl rfl (grd_extract (v := ?_) rfl rfl ?_) ?_
        rotate_left 1
        · simp only [List.getElem?_toArray, List.getElem?_cons_zero, List.getElem?_cons_succ]; rfl
      refine GOps.nil ?_
      refine GWP.cond_f rfl ?_ ?_
      · with_reducible rfl
      refine GWP.seq ?_
      refine GWP.region ?_
      refine GOps.r rfl rfl rfl rfl (grd_assertY tab_is rfl rfl rfl rfl) ?_
      focus
        refine GOps.r rfl rfl rfl rfl (grd_extract (v := ?_) rfl rfl ?_) ?_
        rotate_left 1
        · simp only [List.getElem?_toArray, List.getElem?_cons_zero, List.getElem?_cons_succ]; rfl
      focus
        refine GOps.r rfl rfl rfl rfl (grd_extract (v := ?_) rfl rfl ?_) ?_
        rotate_left 1
        · simp only [List.getElem?_toArray, List.getElem?_cons_zero, List.getElem?_cons_succ]; rfl
      refine GOps.nil ?_
      refine GWP.cond_t rfl ?_ ?_
      · with_reducible rfl
      refine GWP.seq ?_
      refine GWP.region ?_
      focus
        refine GOps.w1 rfl rfl rfl rfl (gop_alloc' (id := ?_) ?_ tab_is rfl rfl ?_) ?_
        rotate_left 1
        · simp; rfl
        · decide
      focus
        refine GOps.s rfl rfl rfl (gop_storeC (b := ?_) (cs := ?_) tab_is rfl rfl ?_ rfl rfl ?_ ?_ ?_ ?_ ?_ ?_) ?_
        rotate_left 2
        · rfl
        · rfl
        refine Hp.at_push_id ?_
        · simp; done
        · rfl
        · exact Nat.le_of_ble_eq_true rfl
        · exact .inr (by simp)
        · simp [splice, Value.cells]; rfl
      refine GOps.nil ?_
      refine GWP.seq ?_
      refine GWP.region ?_
      refine GOps.r rfl rfl rfl rfl (grd_assign rfl rfl) ?_
      refine GOps.nil ?_
      refine GWP.seq ?_
      refine GWP.seq ?_
      refine GWP.region ?_
      refine GOps.r rfl rfl rfl rfl (grd_fieldAddr tab_is rfl rfl rfl rfl rfl) ?_
      focus
        refine GOps.r rfl rfl rfl rfl (grd_load1 (b := ?_) (v := ?_) tab_is rfl rfl rfl rfl ?_ ?_) ?_
        rotate_left 2
        refine Hp.at_put_eq ?_
        · simp; done
        · rfl
      refine GOps.nil ?_
      refine GWP.cond_t rfl ?_ ?_
      · with_reducible rfl
      refine GWP.region ?_
      refine GOps.r rfl rfl rfl rfl (grd_assign rfl rfl) ?_
      refine GOps.nil ?_
      refine GWP.seq ?_
      refine GWP.region ?_
      refine GOps.r rfl rfl rfl rfl (grd_fieldAddr tab_is rfl rfl rfl rfl rfl) ?_
      focus
        refine GOps.r rfl rfl rfl rfl (grd_load1 (b := ?_) (v := ?_) tab_is rfl rfl rfl rfl ?_ ?_) ?_
        rotate_left 2
        refine Hp.at_put_eq ?_
        · simp; done
        · rfl
      refine GOps.r rfl rfl rfl rfl (grd_fieldAddr tab_is rfl rfl rfl rfl rfl) ?_
      focus
        refine GOps.r rfl rfl rfl rfl (grd_load1 (b := ?_) (v := ?_) tab_is rfl rfl rfl rfl ?_ ?_) ?_
        rotate_left 2
        refine Hp.at_put_eq ?_
        · simp; done
        · rfl
      refine GOps.r rfl rfl rfl rfl (grd_fieldAddr tab_is rfl rfl rfl rfl rfl) ?_
      focus
        refine GOps.r rfl rfl rfl rfl (grd_load1 (b := ?_) (v := ?_) tab_is rfl rfl rfl rfl ?_ ?_) ?_
        rotate_left 2
        refine Hp.at_put_eq ?_
        · simp; done
        · rfl
      refine GOps.r rfl rfl rfl rfl (grd_fieldAddr tab_is rfl rfl rfl rfl rfl) ?_
      focus
        refine GOps.r rfl rfl rfl rfl (grd_load1 (b := ?_) (v := ?_) tab_is rfl rfl rfl rfl ?_ ?_) ?_
        rotate_left 2
        refine Hp.at_put_eq ?_
        · simp; done
        · rfl
      refine GOps.r rfl rfl rfl rfl (grd_move rfl rfl) ?_
      focus
        refine GOps.r rfl rfl rfl rfl (grd_buildA (cs := ?_) tab_is rfl rfl rfl ?_ rfl ?_) ?_
        rotate_left 1
        · decide
        · simp [gfill, gsets, Value.cells]; rfl
      focus
        refine GOps.r rfl rfl rfl rfl (grd_build (cs := ?_) tab_is rfl rfl rfl ?_ rfl ?_) ?_
        rotate_left 1
        · decide
        · simp [gfill, gsets, Value.cells]; rfl
      focus
        refine GOps.s rfl rfl rfl (gop_storeC (b := ?_) (cs := ?_) tab_is rfl rfl ?_ rfl rfl ?_ ?_ ?_ ?_ ?_ ?_) ?_
        rotate_left 2
        · rfl
        · rfl
        refine (Hp.at_put_ne ?_).trans ?_
        · omega
        refine (Hp.at_push_lt ?_).trans ?_
        · simp; done
        · exact Hp.at_push_eq
        · rfl
        · exact Nat.le_of_ble_eq_true rfl
        · exact .inr (by simp)
        · simp [splice, Value.cells]; rfl
      refine GOps.nil ?_
      refine GWP.ret ?_
      focus
        refine ⟨_, (gres_cellNK (b := ?_) (cs := ?_) rfl rfl rfl ?_ ?_ ?_), ?_⟩
        rotate_left 2
        refine Hp.at_put_eq ?_
        · simp; omega
        · exact Nat.le_of_ble_eq_true rfl
        · simp [Value.cells]; rfl
      refine ⟨?_, ?_⟩
      · rfl
      refine HExt.put ?_ ?_
      refine HExt.put ?_ ?_
      refine HExt.push ?_
      refine HExt.push ?_
      · exact HExt.refl _ _
      · exact .inr (by omega)
      · exact .inr (by omega)
set_option maxHeartbeats 4000000 in
set_option maxRecDepth 100000 in
set_option linter.unusedSimpArgs false in
theorem g_plainD (H : Hp) (p : Option Addr) (n c : Nat) (L : List UInt8) (hb : BS H (.slice p n c) L) : GCalls Try.prog 11 [.iface 68 (.slice p n c)] [] H fun v H' => v = blkV 68 0 0 0 0 0 L ∧ HExt [] H H' := by
  refine GCalls.body tab_is Try.func11 rfl Try.results11 Try.ntmps11 (by simp) ?_ ?_
  · first | (intro _ h; cases h; done) | (simp; done) | (simp; omega) | (intro i hi; simp at hi; rcases hi with rfl | rfl <;> omega) | (intro i hi; simp at hi; rcases hi with rfl | rfl | rfl <;> omega)
  focus
    refine GWP.seq ?_
    refine GWP.region ?_
    focus
      refine GOps.w1 rfl rfl rfl rfl (gop_alloc' (id := ?_) ?_ tab_is rfl rfl ?_) ?_
      rotate_left 1
      · rfl
      · decide
    refine GOps.nil ?_
    refine GWP.seq ?_
    refine GWP.seq ?_
    refine GWP.region ?_
    refine GOps.r rfl rfl rfl rfl (grd_move rfl rfl) ?_
    refine GOps.nil ?_
    refine GWP.block ?_
    refine GWP.seq ?_
    refine GWP.region ?_
    refine GOps.r rfl rfl rfl rfl (grd_assertN tab_is rfl rfl rfl rfl rfl (by decide)) ?_
    focus
      refine GOps.r rfl rfl rfl rfl (grd_extract (v := ?_) rfl rfl ?_) ?_
      rotate_left 1
      · simp only [List.getElem?_toArray, List.getElem?_cons_zero, List.getElem?_cons_succ]; rfl
    focus
      refine GOps.r rfl rfl rfl rfl (grd_extract (v := ?_) rfl rfl ?_) ?_
      rotate_left 1
      · simp only [List.getElem?_toArray, List.getElem?_cons_zero, List.getElem?_cons_succ]; rfl
    refine GOps.nil ?_
    refine GWP.cond_f rfl ?_ ?_
    · with_reducible rfl
    refine GWP.seq ?_
    refine GWP.region ?_
    refine GOps.r rfl rfl rfl rfl (grd_assertN tab_is rfl rfl rfl rfl rfl (by decide)) ?_
    focus
      refine GOps.r rfl rfl rfl rfl (grd_extract (v := ?_) rfl rfl ?_) ?_
      rotate_left 1
      · simp only [List.getElem?_toArray, List.getElem?_cons_zero, List.getElem?_cons_succ]; rfl
    focus
      refine GOps.r rfl rfl rfl rfl (grd_extract (v := ?_) rfl rfl ?_) ?_
      rotate_left 1
      · simp only [List.getElem?_toArray, List.getElem?_cons_zero, List.getElem?_cons_succ]; rfl
    refine GOps.nil ?_
    refine GWP.cond_f rfl ?_ ?_
    · with_reducible rfl
    refine GWP.seq ?_
    refine GWP.region ?_
    refine GOps.r rfl rfl rfl rfl (grd_assertY tab_is rfl rfl rfl rfl) ?_
    focus
      refine GOps.r rfl rfl rfl rfl (grd_extract (v := ?_) rfl rfl ?_) ?_
      rotate_left 1
      · simp only [List.getElem?_toArray, List.getElem?_cons_zero, List.getElem?_cons_succ]; rfl
    focus
      refine GOps.r rfl rfl rfl rfl (grd_extract (v := ?_) rfl rfl ?_) ?_
      rotate_left 1
      · simp only [List.getElem?_toArray, List.getElem?_cons_zero, List.getElem?_cons_succ]; rfl
    refine GOps.nil ?_
    refine GWP.cond_t rfl ?_ ?_
    · with_reducible rfl
    refine GWP.seq ?_
    refine GWP.region ?_
    refine GOps.r rfl rfl rfl rfl (grd_assign rfl rfl) ?_
    refine GOps.nil ?_
    refine GWP.seq ?_
    refine GWP.region ?_
    refine GOps.r rfl rfl rfl rfl (grd_move rfl rfl) ?_
    focus
      refine GOps.re rfl rfl rfl rfl (grd_strBS (L := ?_) tab_is rfl rfl rfl rfl rfl rfl rfl rfl ?_) ?_
      rotate_left 1
      refine BS.ext (by assumption) ?_
      refine HExt.push ?_
      · exact HExt.refl _ _
    focus
      refine GOps.r rfl rfl rfl rfl (grd_build (cs := ?_) tab_is rfl rfl rfl ?_ rfl ?_) ?_
      rotate_left 1
      · decide
      · simp [gfill, gsets, Value.cells]; rfl
    focus
      refine GOps.s rfl rfl rfl (gop_storeC (b := ?_) (cs := ?_) tab_is rfl rfl ?_ rfl rfl ?_ ?_ ?_ ?_ ?_ ?_) ?_
      rotate_left 2
      · rfl
      · rfl
      · exact Hp.at_push_eq
      · rfl
      · exact Nat.le_of_ble_eq_true rfl
      · exact .inr (by simp)
      · simp [splice, Value.cells]; rfl
    refine GOps.nil ?_
    refine GWP.ret ?_
    focus
      refine ⟨_, (gres_cellNK (b := ?_) (cs := ?_) rfl rfl rfl ?_ ?_ ?_), ?_⟩
      rotate_left 2
      refine Hp.at_put_eq ?_
      · simp; done
      · exact Nat.le_of_ble_eq_true rfl
      · simp [Value.cells]; rfl
    refine ⟨?_, ?_⟩
    · rfl
    refine HExt.put ?_ ?_
    refine HExt.push ?_
    · exact HExt.refl _ _
    · exact .inr (by omega)
inductive RegO where
  | bad (e : Nat)
  | nums (k : UInt8) (a b c d e : Nat)
  | data (M : List UInt8)
def regN (k : UInt8) (r1 r2 r3 r4 r5 : Nat × RdS) : RegO :=
  if r5.2.e ≠ 0 ∨ 0 < r5.2.l.length ∨ ¬ (k.toNat = 72 ∨ k.toNat = 84) then .bad 3 else .nums k r1.1 r2.1 r3.1 r4.1 r5.1
def regO (L : List UInt8) : RegO := match openL L with
  | none => .bad 4
  | some [] => .bad 3
  | some (k :: M) => if k.toNat = 68 then (if 1 ≤ M.length ∧ M.length ≤ 160 then .data M else .bad 3) else
    let r1 := RdS.number ⟨M, 0⟩ segTop
    let r2 := r1.2.number segTop
    let r3 := r2.2.number segTop
    let r4 := r3.2.number segTop
    let r5 := r4.2.number segTop
    regN k r1 r2 r3 r4 r5
def regV : RegO → Value
  | .bad e => .tuple #[blkV 0 0 0 0 0 0 [], .int .i64 (e : Int)]
  | .nums k a b c d e => .tuple #[blkV (k.toNat : Int) a b c d e [], .int .i64 0]
  | .data M => .tuple #[blkV 68 0 0 0 0 0 M, .int .i64 0]
set_option maxHeartbeats 4000000 in
set_option maxRecDepth 100000 in
set_option linter.unusedSimpArgs false in
theorem g_rnum (s : RdS) (r : Nat × RdS) (h : s.number segTop = r) (H : Hp) (g : Nat) (p : Option Addr) (c : Nat) (hr : RG 61 H g p c s) : GCalls Try.prog 27 [.pointer (some ⟨g, 0, none⟩), .int .u64 1073741824] [g] H fun v H' => v = .int .u64 (r.1 : Int) ∧ (∃ p' c', RG 61 H' g p' c' r.2) ∧ BSk H H' ∧ HExt [g] H H' := by
  subst h
  exact g_rnumber H g p c s 1073741824 (by decide) hr
set_option maxHeartbeats 4000000 in
set_option maxRecDepth 100000 in
set_option linter.unusedSimpArgs false in
theorem g_rread (H : Hp) (p : Option Addr) (n c : Nat) (L : List UInt8) (hb : BS H (.slice p n c) L) (hn : n ≤ 35184372088832) : GCalls Try.prog 10 [.slice p n c] [] H fun v H' => v = regV (regO L) ∧ HExt [] H H' := by
  have hcon := fun H p n c hb hn => g_ropen H p n c L hb hn
  have hop : ∀ b, openL L = some b → b.length ≤ 35184372088832 := by
    intro b hb2
    unfold openL at hb2
    split at hb2
    · injection hb2 with hb2
      subst hb2
      have := hb.len
      rw [List.length_take]
      omega
    · cases hb2
  unfold regO
  cases ho : openL L with
  | none =>
    rw [ho] at hcon
    simp only [Option.getD_some, Option.getD_none, Option.isSome_some, Option.isSome_none] at hcon
    refine GCalls.body tab_is Try.func10 rfl Try.results10 Try.ntmps10 (by simp) ?_ ?_
    · first | (intro _ h; cases h; done) | (simp; done) | (simp; omega) | (intro i hi; simp at hi; rcases hi with rfl | rfl <;> omega) | (intro i hi; simp at hi; rcases hi with rfl | rfl | rfl <;> omega)
    focus
      refine GWP.seq ?_
      refine GWP.region ?_
      focus
        refine GOps.w1 rfl rfl rfl rfl (gop_alloc' (id := ?_) ?_ tab_is rfl rfl ?_) ?_
        rotate_left 1
        · rfl
        · decide
      refine GOps.r rfl rfl rfl rfl (grd_assign rfl rfl) ?_
      refine GOps.nil ?_
      refine GWP.seq ?_
      refine GWP.region ?_
      refine GOps.r rfl rfl rfl rfl (grd_move rfl rfl) ?_
      refine GOps.w rfl rfl rfl rfl (gop_call rfl Try.call26 rfl ?_ (hcon _ _ _ _ ?_ ?_)) ?_
      · intro _ h; cases h; done
      refine BS.ext (by assumption) ?_
      refine HExt.push ?_
      · exact HExt.refl _ _
      · omega
      rintro _ _ ⟨⟨ph1, nh2, ch3, rfl, bh4⟩, xh5⟩
      have xh5l := HExt.len xh5; try simp at xh5l
      refine GOps.r rfl rfl rfl rfl (grd_move rfl rfl) ?_
      focus
        refine GOps.r rfl rfl rfl rfl (grd_extract (v := ?_) rfl rfl ?_) ?_
        rotate_left 1
        · simp only [List.getElem?_toArray, List.getElem?_cons_zero, List.getElem?_cons_succ]; rfl
      focus
        refine GOps.r rfl rfl rfl rfl (grd_extract (v := ?_) rfl rfl ?_) ?_
        rotate_left 1
        · simp only [List.getElem?_toArray, List.getElem?_cons_zero, List.getElem?_cons_succ]; rfl
      refine GOps.r rfl rfl rfl rfl (grd_assign rfl rfl) ?_
      refine GOps.r rfl rfl rfl rfl (grd_assign rfl rfl) ?_
      refine GOps.nil ?_
      refine GWP.seq ?_
      refine GWP.seq ?_
      refine GWP.region ?_
      refine GOps.r rfl rfl rfl rfl (grd_move rfl rfl) ?_
      refine GOps.r rfl rfl rfl rfl (grd_not rfl rfl) ?_
      refine GOps.nil ?_
      refine GWP.cond_t rfl ?_ ?_
      · simp; done
      refine GWP.seq ?_
      refine GWP.region ?_
      focus
        refine GOps.r rfl rfl rfl rfl (grd_build (cs := ?_) tab_is rfl rfl rfl ?_ rfl ?_) ?_
        rotate_left 1
        · decide
        · simp [gfill, gsets, Value.cells]; rfl
      focus
        refine GOps.s rfl rfl rfl (gop_storeC (b := ?_) (cs := ?_) tab_is rfl rfl ?_ rfl rfl ?_ ?_ ?_ ?_ ?_ ?_) ?_
        rotate_left 2
        · rfl
        · rfl
        refine (HExt.eq (by assumption) _ ?_ ?_).trans ?_
        · simp; done
        · intro h; cases h; done
        · exact Hp.at_push_eq
        · rfl
        · decide
        · exact .inr (by simp)
        · simp [splice, Value.cells]; rfl
      refine GOps.r rfl rfl rfl rfl (grd_assign rfl rfl) ?_
      refine GOps.nil ?_
      refine GWP.ret ?_
      focus
        refine ⟨_, (.two (gres_cellNK (b := ?_) (cs := ?_) rfl rfl rfl ?_ ?_ ?_) (.one rfl)), ?_⟩
        rotate_left 2
        refine Hp.at_put_eq ?_
        · omega
        · decide
        · simp [Value.cells]; rfl
      refine ⟨?_, ?_⟩
      · rfl
      refine HExt.put ?_ ?_
      refine HExt.tr ?_ (by assumption) ?_
      refine HExt.push ?_
      · exact HExt.refl _ _
      · intro _ h; cases h; done
      · exact .inr (by omega)
  | some b =>
    rw [ho] at hcon
    simp only [Option.getD_some, Option.getD_none, Option.isSome_some, Option.isSome_none] at hcon
    have hbl := hop b ho
    clear hop ho
    cases b with
    | nil =>
      refine GCalls.body tab_is Try.func10 rfl Try.results10 Try.ntmps10 (by simp) ?_ ?_
      · first | (intro _ h; cases h; done) | (simp; done) | (simp; omega) | (intro i hi; simp at hi; rcases hi with rfl | rfl <;> omega) | (intro i hi; simp at hi; rcases hi with rfl | rfl | rfl <;> omega)
      focus
        refine GWP.seq ?_
        refine GWP.region ?_
        focus
          refine GOps.w1 rfl rfl rfl rfl (gop_alloc' (id := ?_) ?_ tab_is rfl rfl ?_) ?_
          rotate_left 1
          · rfl
          · decide
        refine GOps.r rfl rfl rfl rfl (grd_assign rfl rfl) ?_
        refine GOps.nil ?_
        refine GWP.seq ?_
        refine GWP.region ?_
        refine GOps.r rfl rfl rfl rfl (grd_move rfl rfl) ?_
        refine GOps.w rfl rfl rfl rfl (gop_call rfl Try.call26 rfl ?_ (hcon _ _ _ _ ?_ ?_)) ?_
        · intro _ h; cases h; done
        refine BS.ext (by assumption) ?_
        refine HExt.push ?_
        · exact HExt.refl _ _
        · omega
        rintro _ _ ⟨⟨pi1, ni2, ci3, rfl, bi4⟩, xi5⟩
        have xi5l := HExt.len xi5; try simp at xi5l
        have bi4n := BS.len bi4; simp at bi4n; subst bi4n
        refine GOps.r rfl rfl rfl rfl (grd_move rfl rfl) ?_
        focus
          refine GOps.r rfl rfl rfl rfl (grd_extract (v := ?_) rfl rfl ?_) ?_
          rotate_left 1
          · simp only [List.getElem?_toArray, List.getElem?_cons_zero, List.getElem?_cons_succ]; rfl
        focus
          refine GOps.r rfl rfl rfl rfl (grd_extract (v := ?_) rfl rfl ?_) ?_
          rotate_left 1
          · simp only [List.getElem?_toArray, List.getElem?_cons_zero, List.getElem?_cons_succ]; rfl
        refine GOps.r rfl rfl rfl rfl (grd_assign rfl rfl) ?_
        refine GOps.r rfl rfl rfl rfl (grd_assign rfl rfl) ?_
        refine GOps.nil ?_
        refine GWP.seq ?_
        refine GWP.seq ?_
        refine GWP.region ?_
        refine GOps.r rfl rfl rfl rfl (grd_move rfl rfl) ?_
        refine GOps.r rfl rfl rfl rfl (grd_not rfl rfl) ?_
        refine GOps.nil ?_
        refine GWP.cond_f rfl ?_ ?_
        · simp; done
        refine GWP.skip ?_
        refine GWP.seq ?_
        refine GWP.seq ?_
        refine GWP.region ?_
        refine GOps.r rfl rfl rfl rfl (grd_move rfl rfl) ?_
        refine GOps.r rfl rfl rfl rfl (grd_len tab_is rfl rfl rfl rfl rfl) ?_
        refine GOps.r rfl rfl rfl rfl (grd_eql rfl rfl rfl) ?_
        refine GOps.nil ?_
        refine GWP.cond_t rfl ?_ ?_
        · exact decide_eq_true (by omega)
        refine GWP.seq ?_
        refine GWP.region ?_
        focus
          refine GOps.r rfl rfl rfl rfl (grd_build (cs := ?_) tab_is rfl rfl rfl ?_ rfl ?_) ?_
          rotate_left 1
          · decide
          · simp [gfill, gsets, Value.cells]; rfl
        focus
          refine GOps.s rfl rfl rfl (gop_storeC (b := ?_) (cs := ?_) tab_is rfl rfl ?_ rfl rfl ?_ ?_ ?_ ?_ ?_ ?_) ?_
          rotate_left 2
          · rfl
          · rfl
          refine (HExt.eq (by assumption) _ ?_ ?_).trans ?_
          · simp; done
          · intro h; cases h; done
          · exact Hp.at_push_eq
          · rfl
          · decide
          · exact .inr (by simp)
          · simp [splice, Value.cells]; rfl
        refine GOps.r rfl rfl rfl rfl (grd_assign rfl rfl) ?_
        refine GOps.nil ?_
        refine GWP.ret ?_
        focus
          refine ⟨_, (.two (gres_cellNK (b := ?_) (cs := ?_) rfl rfl rfl ?_ ?_ ?_) (.one rfl)), ?_⟩
          rotate_left 2
          refine Hp.at_put_eq ?_
          · omega
          · decide
          · simp [Value.cells]; rfl
        refine ⟨?_, ?_⟩
        · rfl
        refine HExt.put ?_ ?_
        refine HExt.tr ?_ (by assumption) ?_
        refine HExt.push ?_
        · exact HExt.refl _ _
        · intro _ h; cases h; done
        · exact .inr (by omega)
    | cons k M =>
      simp only
      simp only [List.length_cons] at hbl
      by_cases hk : k.toNat = 68
      · rw [if_pos hk]
        refine GCalls.body tab_is Try.func10 rfl Try.results10 Try.ntmps10 (by simp) ?_ ?_
        · first | (intro _ h; cases h; done) | (simp; done) | (simp; omega) | (intro i hi; simp at hi; rcases hi with rfl | rfl <;> omega) | (intro i hi; simp at hi; rcases hi with rfl | rfl | rfl <;> omega)
        focus
          refine GWP.seq ?_
          refine GWP.region ?_
          focus
            refine GOps.w1 rfl rfl rfl rfl (gop_alloc' (id := ?_) ?_ tab_is rfl rfl ?_) ?_
            rotate_left 1
            · rfl
            · decide
          refine GOps.r rfl rfl rfl rfl (grd_assign rfl rfl) ?_
          refine GOps.nil ?_
          refine GWP.seq ?_
          refine GWP.region ?_
          refine GOps.r rfl rfl rfl rfl (grd_move rfl rfl) ?_
          refine GOps.w rfl rfl rfl rfl (gop_call rfl Try.call26 rfl ?_ (hcon _ _ _ _ ?_ ?_)) ?_
          · intro _ h; cases h; done
          refine BS.ext (by assumption) ?_
          refine HExt.push ?_
          · exact HExt.refl _ _
          · omega
          rintro _ _ ⟨⟨pj1, nj2, cj3, rfl, bj4⟩, xj5⟩
          have xj5l := HExt.len xj5; try simp at xj5l
          have bj4n := BS.len bj4; simp at bj4n; subst bj4n
          refine GOps.r rfl rfl rfl rfl (grd_move rfl rfl) ?_
          focus
            refine GOps.r rfl rfl rfl rfl (grd_extract (v := ?_) rfl rfl ?_) ?_
            rotate_left 1
            · simp only [List.getElem?_toArray, List.getElem?_cons_zero, List.getElem?_cons_succ]; rfl
          focus
            refine GOps.r rfl rfl rfl rfl (grd_extract (v := ?_) rfl rfl ?_) ?_
            rotate_left 1
            · simp only [List.getElem?_toArray, List.getElem?_cons_zero, List.getElem?_cons_succ]; rfl
          refine GOps.r rfl rfl rfl rfl (grd_assign rfl rfl) ?_
          refine GOps.r rfl rfl rfl rfl (grd_assign rfl rfl) ?_
          refine GOps.nil ?_
          refine GWP.seq ?_
          refine GWP.seq ?_
          refine GWP.region ?_
          refine GOps.r rfl rfl rfl rfl (grd_move rfl rfl) ?_
          refine GOps.r rfl rfl rfl rfl (grd_not rfl rfl) ?_
          refine GOps.nil ?_
          refine GWP.cond_f rfl ?_ ?_
          · simp; done
          refine GWP.skip ?_
          refine GWP.seq ?_
          refine GWP.seq ?_
          refine GWP.region ?_
          refine GOps.r rfl rfl rfl rfl (grd_move rfl rfl) ?_
          refine GOps.r rfl rfl rfl rfl (grd_len tab_is rfl rfl rfl rfl rfl) ?_
          refine GOps.r rfl rfl rfl rfl (grd_eql rfl rfl rfl) ?_
          refine GOps.nil ?_
          refine GWP.cond_f rfl ?_ ?_
          · exact decide_eq_false (by omega)
          refine GWP.skip ?_
          refine GWP.seq ?_
          refine GWP.region ?_
          refine GOps.r rfl rfl rfl rfl (grd_move rfl rfl) ?_
          focus
            refine GOps.r rfl rfl rfl rfl (grd_indexBS (q := ?_) (L := ?_) tab_is rfl rfl rfl rfl rfl ?_ ?_ ?_) ?_
            rotate_left 2
            · assumption
            · rfl
            · exact Nat.le_of_ble_eq_true rfl
          focus
            refine GOps.re rfl rfl rfl rfl (grd_loadBSK (n := ?_) (c := ?_) (L := ?_) (u := ?_) tab_is rfl rfl rfl rfl ?_ ?_ ?_) ?_
            rotate_left 4
            · assumption
            · exact Nat.le_of_ble_eq_true rfl
            · simp only [List.getD_cons_zero]; rfl
          focus
            refine GOps.r rfl rfl rfl rfl (grd_build (cs := ?_) tab_is rfl rfl rfl ?_ rfl ?_) ?_
            rotate_left 1
            · decide
            · simp [gfill, gsets, Value.cells]; rfl
          focus
            refine GOps.w1 rfl rfl rfl rfl (gop_alloc' (id := ?_) ?_ tab_is rfl rfl ?_) ?_
            rotate_left 1
            · rfl
            · decide
          focus
            refine GOps.s rfl rfl rfl (gop_storeC (b := ?_) (cs := ?_) tab_is rfl rfl ?_ rfl rfl ?_ ?_ ?_ ?_ ?_ ?_) ?_
            rotate_left 2
            · rfl
            · rfl
            · exact Hp.at_push_eq
            · rfl
            · exact Nat.le_of_ble_eq_true rfl
            · exact .inr (by simp; omega)
            · simp [splice, Value.cells]; rfl
          refine GOps.nil ?_
          refine GWP.seq ?_
          refine GWP.region ?_
          refine GOps.r rfl rfl rfl rfl (grd_move rfl rfl) ?_
          focus
            refine gops_bs rfl rfl rfl rfl (grd_slBS (l := ?_) (h := ?_) (m2 := ?_) (L := ?_) (M := ?_) tab_is rfl rfl rfl rfl ?_ ?_ ?_ ?_ ?_ ?_ ?_) ?_
            rotate_left 5
            refine BS.ext (by assumption) ?_
            refine HExt.put ?_ ?_
            refine HExt.push ?_
            · exact HExt.refl _ _
            · exact .inr (by omega)
            · refine gbound_const ?_; exact rfl
            · exact rfl
            · exact Nat.le_of_ble_eq_true rfl
            · omega
            · simp; rfl
            · refine Eq.trans (List.take_of_length_le ?_) ?_; rotate_left 1; rfl; (simp; done)
          intro pj6 cj6 j6
          have j6n := BS.len j6
          focus
            refine GOps.r rfl rfl rfl rfl (grd_build (cs := ?_) tab_is rfl rfl rfl ?_ rfl ?_) ?_
            rotate_left 1
            · decide
            · simp [gfill, gsets, Value.cells]; rfl
          focus
            refine GOps.w1 rfl rfl rfl rfl (gop_box' (id := ?_) ?_ rfl rfl rfl) ?_
            rotate_left 1
            · simp; rfl
          refine GOps.r rfl rfl rfl rfl (grd_assign rfl rfl) ?_
          refine GOps.nil ?_
          refine GWP.seq ?_
          refine GWP.seq ?_
          refine GWP.region ?_
          refine GOps.r rfl rfl rfl rfl (grd_fieldAddr tab_is rfl rfl rfl rfl rfl) ?_
          focus
            refine GOps.r rfl rfl rfl rfl (grd_load1 (b := ?_) (v := ?_) tab_is rfl rfl rfl rfl ?_ ?_) ?_
            rotate_left 2
            refine (Hp.at_push_lt ?_).trans ?_
            · simp; done
            refine Hp.at_put_eq ?_
            · simp; done
            · rfl
          refine GOps.r rfl rfl rfl rfl (grd_eql rfl rfl rfl) ?_
          refine GOps.nil ?_
          refine GWP.cond_t rfl ?_ ?_
          · exact decide_eq_true (by omega)
          refine GWP.seq ?_
          refine GWP.region ?_
          refine GOps.r rfl rfl rfl rfl (grd_move rfl rfl) ?_
          focus
            refine gops_bs rfl rfl rfl rfl (grd_slBS (l := ?_) (h := ?_) (m2 := ?_) (L := ?_) (M := ?_) tab_is rfl rfl rfl rfl ?_ ?_ ?_ ?_ ?_ ?_ ?_) ?_
            rotate_left 5
            refine BS.ext (by assumption) ?_
            refine HExt.push ?_
            refine HExt.put ?_ ?_
            refine HExt.push ?_
            · exact HExt.refl _ _
            · exact .inr (by omega)
            · refine gbound_const ?_; exact rfl
            · exact rfl
            · exact Nat.le_of_ble_eq_true rfl
            · omega
            · simp; rfl
            · refine Eq.trans (List.take_of_length_le ?_) ?_; rotate_left 1; rfl; (simp; done)
          intro pj7 cj7 j7
          have j7n := BS.len j7
          focus
            refine GOps.re rfl rfl rfl rfl (grd_strBS (L := ?_) tab_is rfl rfl rfl rfl rfl rfl rfl rfl ?_) ?_
            rotate_left 1
            · assumption
          refine GOps.r rfl rfl rfl rfl (grd_fieldAddr tab_is rfl rfl rfl rfl rfl) ?_
          focus
            refine GOps.s rfl rfl rfl (gop_store1 (b := ?_) tab_is rfl rfl rfl rfl rfl rfl ?_ ?_ ?_ ?_) ?_
            rotate_left 1
            refine (Hp.at_push_lt ?_).trans ?_
            · simp; done
            refine Hp.at_put_eq ?_
            · simp; done
            · rfl
            · exact Nat.le_of_ble_eq_true rfl
            · exact .inr (by simp; omega)
          refine GOps.nil ?_
          refine GWP.region ?_
          refine GOps.r rfl rfl rfl rfl (grd_move rfl rfl) ?_
          refine GOps.r rfl rfl rfl rfl (grd_nil rfl rfl) ?_
          refine GOps.r rfl rfl rfl rfl (grd_fieldAddr tab_is rfl rfl rfl rfl rfl) ?_
          focus
            refine GOps.s rfl rfl rfl (gop_store1 (b := ?_) tab_is rfl rfl rfl rfl rfl rfl ?_ ?_ ?_ ?_) ?_
            rotate_left 1
            refine (Hp.at_put_ne ?_).trans ?_
            · omega
            refine Hp.at_push_id ?_
            · simp; done
            · rfl
            · exact Nat.le_of_ble_eq_true rfl
            · exact .inr (by simp; omega)
          refine GOps.nil ?_
          refine GWP.seq ?_
          refine GWP.region ?_
          focus
            refine GOps.r rfl rfl rfl rfl (grd_loadNK (b := ?_) (cs := ?_) tab_is rfl rfl rfl rfl ?_ ?_ ?_) ?_
            rotate_left 2
            refine (Hp.at_put_ne ?_).trans ?_
            · omega
            refine Hp.at_put_eq ?_
            · simp; omega
            · exact Nat.le_of_ble_eq_true rfl
            · simp [Value.cells]; rfl
          refine GOps.w rfl rfl rfl rfl (gop_call rfl Try.call28 rfl ?_ (g_rightD _ _ _ ?_)) ?_
          · intro _ h; cases h; done
          · omega
          rintro _ _ ⟨rfl, xj8⟩
          have xj8l := HExt.len xj8; try simp at xj8l
          refine GOps.r rfl rfl rfl rfl (grd_assign rfl rfl) ?_
          refine GOps.nil ?_
          refine GWP.seq ?_
          refine GWP.seq ?_
          refine GWP.region ?_
          refine GOps.r rfl rfl rfl rfl (grd_move rfl rfl) ?_
          refine GOps.r rfl rfl rfl rfl (grd_nil rfl rfl) ?_
          refine GOps.r rfl rfl rfl rfl (grd_fieldAddr tab_is rfl rfl rfl rfl rfl) ?_
          focus
            refine GOps.r rfl rfl rfl rfl (grd_load1 (b := ?_) (v := ?_) tab_is rfl rfl rfl rfl ?_ ?_) ?_
            rotate_left 2
            refine (HExt.eq (by assumption) _ ?_ ?_).trans ?_
            · simp; done
            · intro h; cases h; done
            refine Hp.at_put_eq ?_
            · simp; done
            · rfl
          refine GOps.r rfl rfl rfl rfl (grd_neq rfl rfl rfl) ?_
          refine GOps.r rfl rfl rfl rfl (grd_move rfl rfl) ?_
          refine GOps.take rfl rfl ?_ ?_
          · simp; done
          refine GOps.r rfl rfl rfl rfl (grd_move rfl rfl) ?_
          refine GOps.take rfl rfl ?_ ?_
          · simp; done
          refine GOps.r rfl rfl rfl rfl (grd_nil rfl rfl) ?_
          refine GOps.take rfl rfl ?_ ?_
          · simp; done
          refine GOps.r rfl rfl rfl rfl (grd_fieldAddr tab_is rfl rfl rfl rfl rfl) ?_
          refine GOps.take rfl rfl ?_ ?_
          · simp; done
          focus
            refine GOps.r rfl rfl rfl rfl (grd_load1 (b := ?_) (v := ?_) tab_is rfl rfl rfl rfl ?_ ?_) ?_
            rotate_left 2
            refine (HExt.eq (by assumption) _ ?_ ?_).trans ?_
            · simp; done
            · intro h; cases h; done
            refine Hp.at_put_eq ?_
            · simp; done
            · rfl
          refine GOps.take rfl rfl ?_ ?_
          · simp; done
          refine GOps.r rfl rfl rfl rfl (grd_len tab_is rfl rfl rfl rfl rfl) ?_
          refine GOps.take rfl rfl ?_ ?_
          · simp; done
          refine GOps.r rfl rfl rfl rfl (grd_gtr rfl rfl rfl) ?_
          refine GOps.r rfl rfl rfl rfl (grd_pick_f rfl rfl ?_ rfl) ?_
          · exact decide_eq_false (by omega)
          refine GOps.r rfl rfl rfl rfl (grd_move rfl rfl) ?_
          refine GOps.take rfl rfl ?_ ?_
          · simp; done
          refine GOps.r rfl rfl rfl rfl (grd_move rfl rfl) ?_
          refine GOps.take rfl rfl ?_ ?_
          · simp; done
          refine GOps.r rfl rfl rfl rfl (grd_not rfl rfl) ?_
          refine GOps.r rfl rfl rfl rfl (grd_pick_f rfl rfl ?_ rfl) ?_
          · exact decide_eq_false (by omega)
          refine GOps.nil ?_
          refine GWP.cond rfl (fun j9 => ?_) (fun j9 => ?_)
          simp only [beq_true, beq_false, Bool.not_true, Bool.not_false, Bool.not_eq_true', Bool.not_eq_false', decide_eq_true_eq, decide_eq_false_iff_not] at j9
          refine GWP.seq ?_
          refine GWP.region ?_
          focus
            refine GOps.r rfl rfl rfl rfl (grd_build (cs := ?_) tab_is rfl rfl rfl ?_ rfl ?_) ?_
            rotate_left 1
            · decide
            · simp [gfill, gsets, Value.cells]; rfl
          focus
            refine GOps.s rfl rfl rfl (gop_storeC (b := ?_) (cs := ?_) tab_is rfl rfl ?_ rfl rfl ?_ ?_ ?_ ?_ ?_ ?_) ?_
            rotate_left 2
            · rfl
            · rfl
            refine (HExt.eq (by assumption) _ ?_ ?_).trans ?_
            · simp; omega
            · intro h; cases h; done
            refine (Hp.at_put_ne ?_).trans ?_
            · omega
            refine (Hp.at_put_ne ?_).trans ?_
            · omega
            refine (Hp.at_push_lt ?_).trans ?_
            · simp; omega
            refine (Hp.at_put_ne ?_).trans ?_
            · omega
            refine (Hp.at_push_lt ?_).trans ?_
            · omega
            refine (HExt.eq (by assumption) _ ?_ ?_).trans ?_
            · simp; done
            · intro h; cases h; done
            · exact Hp.at_push_eq
            · rfl
            · decide
            · exact .inr (by simp)
            · simp [splice, Value.cells]; rfl
          refine GOps.r rfl rfl rfl rfl (grd_assign rfl rfl) ?_
          refine GOps.nil ?_
          refine GWP.ret ?_
          focus
            refine ⟨_, (.two (gres_cellNK (b := ?_) (cs := ?_) rfl rfl rfl ?_ ?_ ?_) (.one rfl)), ?_⟩
            rotate_left 2
            refine Hp.at_put_eq ?_
            · omega
            · decide
            · simp [Value.cells]; rfl
          refine ⟨?_, ?_⟩
          rotate_left 1
          refine HExt.put ?_ ?_
          refine HExt.tr ?_ (by assumption) ?_
          refine HExt.put ?_ ?_
          refine HExt.put ?_ ?_
          refine HExt.push ?_
          refine HExt.put ?_ ?_
          refine HExt.push ?_
          refine HExt.tr ?_ (by assumption) ?_
          refine HExt.push ?_
          · exact HExt.refl _ _
          · intro _ h; cases h; done
          · exact .inr (by omega)
          · exact .inr (by omega)
          · exact .inr (by omega)
          · intro _ h; cases h; done
          · exact .inr (by omega)
          simp only [beq_true, beq_false, Bool.not_true, Bool.not_false, Bool.not_eq_true', Bool.not_eq_false', decide_eq_true_eq, decide_eq_false_iff_not] at j9
          refine GWP.skip ?_
          refine GWP.seq ?_
          refine GWP.region ?_
          focus
            refine GOps.r rfl rfl rfl rfl (grd_loadNK (b := ?_) (cs := ?_) tab_is rfl rfl rfl rfl ?_ ?_ ?_) ?_
            rotate_left 2
            refine (HExt.eq (by assumption) _ ?_ ?_).trans ?_
            · simp; omega
            · intro h; cases h; done
            refine (Hp.at_put_ne ?_).trans ?_
            · omega
            refine Hp.at_put_eq ?_
            · simp; omega
            · exact Nat.le_of_ble_eq_true rfl
            · simp [Value.cells]; rfl
          focus
            refine GOps.s rfl rfl rfl (gop_storeC (b := ?_) (cs := ?_) tab_is rfl rfl ?_ rfl rfl ?_ ?_ ?_ ?_ ?_ ?_) ?_
            rotate_left 2
            · rfl
            · rfl
            refine (HExt.eq (by assumption) _ ?_ ?_).trans ?_
            · simp; omega
            · intro h; cases h; done
            refine (Hp.at_put_ne ?_).trans ?_
            · omega
            refine (Hp.at_put_ne ?_).trans ?_
            · omega
            refine (Hp.at_push_lt ?_).trans ?_
            · simp; omega
            refine (Hp.at_put_ne ?_).trans ?_
            · omega
            refine (Hp.at_push_lt ?_).trans ?_
            · omega
            refine (HExt.eq (by assumption) _ ?_ ?_).trans ?_
            · simp; done
            · intro h; cases h; done
            · exact Hp.at_push_eq
            · rfl
            · exact Nat.le_of_ble_eq_true rfl
            · exact .inr (by simp)
            · simp [splice, Value.cells]; rfl
          refine GOps.r rfl rfl rfl rfl (grd_assign rfl rfl) ?_
          refine GOps.nil ?_
          refine GWP.ret ?_
          focus
            refine ⟨_, (.two (gres_cellNK (b := ?_) (cs := ?_) rfl rfl rfl ?_ ?_ ?_) (.one rfl)), ?_⟩
            rotate_left 2
            refine Hp.at_put_eq ?_
            · omega
            · exact Nat.le_of_ble_eq_true rfl
            · simp [Value.cells]; rfl
          refine ⟨?_, ?_⟩
          rotate_left 1
          refine HExt.put ?_ ?_
          refine HExt.tr ?_ (by assumption) ?_
          refine HExt.put ?_ ?_
          refine HExt.put ?_ ?_
          refine HExt.push ?_
          refine HExt.put ?_ ?_
          refine HExt.push ?_
          refine HExt.tr ?_ (by assumption) ?_
          refine HExt.push ?_
          · exact HExt.refl _ _
          · intro _ h; cases h; done
          · exact .inr (by omega)
          · exact .inr (by omega)
          · exact .inr (by omega)
          · intro _ h; cases h; done
          · exact .inr (by omega)
        · rw [if_neg (by omega)]; rfl
        · rw [if_pos (by omega), hk]; rfl
      · rw [if_neg hk]
        generalize h1 : RdS.number ⟨M, 0⟩ segTop = r1
        generalize h2 : r1.2.number segTop = r2
        generalize h3 : r2.2.number segTop = r3
        generalize h4 : r3.2.number segTop = r4
        generalize h5 : r4.2.number segTop = r5
        have t1 := number_top h1
        have t2 := number_top h2
        have t3 := number_top h3
        have t4 := number_top h4
        have t5 := number_top h5
        refine GCalls.body tab_is Try.func10 rfl Try.results10 Try.ntmps10 (by simp) ?_ ?_
        · first | (intro _ h; cases h; done) | (simp; done) | (simp; omega) | (intro i hi; simp at hi; rcases hi with rfl | rfl <;> omega) | (intro i hi; simp at hi; rcases hi with rfl | rfl | rfl <;> omega)
        focus
          refine GWP.seq ?_
          refine GWP.region ?_
          focus
            refine GOps.w1 rfl rfl rfl rfl (gop_alloc' (id := ?_) ?_ tab_is rfl rfl ?_) ?_
            rotate_left 1
            · rfl
            · decide
          refine GOps.r rfl rfl rfl rfl (grd_assign rfl rfl) ?_
          refine GOps.nil ?_
          refine GWP.seq ?_
          refine GWP.region ?_
          refine GOps.r rfl rfl rfl rfl (grd_move rfl rfl) ?_
          refine GOps.w rfl rfl rfl rfl (gop_call rfl Try.call26 rfl ?_ (hcon _ _ _ _ ?_ ?_)) ?_
          · intro _ h; cases h; done
          refine BS.ext (by assumption) ?_
          refine HExt.push ?_
          · exact HExt.refl _ _
          · omega
          rintro _ _ ⟨⟨pk1, nk2, ck3, rfl, bk4⟩, xk5⟩
          have xk5l := HExt.len xk5; try simp at xk5l
          have bk4n := BS.len bk4; simp at bk4n; subst bk4n
          refine GOps.r rfl rfl rfl rfl (grd_move rfl rfl) ?_
          focus
            refine GOps.r rfl rfl rfl rfl (grd_extract (v := ?_) rfl rfl ?_) ?_
            rotate_left 1
            · simp only [List.getElem?_toArray, List.getElem?_cons_zero, List.getElem?_cons_succ]; rfl
          focus
            refine GOps.r rfl rfl rfl rfl (grd_extract (v := ?_) rfl rfl ?_) ?_
            rotate_left 1
            · simp only [List.getElem?_toArray, List.getElem?_cons_zero, List.getElem?_cons_succ]; rfl
          refine GOps.r rfl rfl rfl rfl (grd_assign rfl rfl) ?_
          refine GOps.r rfl rfl rfl rfl (grd_assign rfl rfl) ?_
          refine GOps.nil ?_
          refine GWP.seq ?_
          refine GWP.seq ?_
          refine GWP.region ?_
          refine GOps.r rfl rfl rfl rfl (grd_move rfl rfl) ?_
          refine GOps.r rfl rfl rfl rfl (grd_not rfl rfl) ?_
          refine GOps.nil ?_
          refine GWP.cond_f rfl ?_ ?_
          · simp; done
          refine GWP.skip ?_
          refine GWP.seq ?_
          refine GWP.seq ?_
          refine GWP.region ?_
          refine GOps.r rfl rfl rfl rfl (grd_move rfl rfl) ?_
          refine GOps.r rfl rfl rfl rfl (grd_len tab_is rfl rfl rfl rfl rfl) ?_
          refine GOps.r rfl rfl rfl rfl (grd_eql rfl rfl rfl) ?_
          refine GOps.nil ?_
          refine GWP.cond_f rfl ?_ ?_
          · exact decide_eq_false (by omega)
          refine GWP.skip ?_
          refine GWP.seq ?_
          refine GWP.region ?_
          refine GOps.r rfl rfl rfl rfl (grd_move rfl rfl) ?_
          focus
            refine GOps.r rfl rfl rfl rfl (grd_indexBS (q := ?_) (L := ?_) tab_is rfl rfl rfl rfl rfl ?_ ?_ ?_) ?_
            rotate_left 2
            · assumption
            · rfl
            · exact Nat.le_of_ble_eq_true rfl
          focus
            refine GOps.re rfl rfl rfl rfl (grd_loadBSK (n := ?_) (c := ?_) (L := ?_) (u := ?_) tab_is rfl rfl rfl rfl ?_ ?_ ?_) ?_
            rotate_left 4
            · assumption
            · exact Nat.le_of_ble_eq_true rfl
            · simp only [List.getD_cons_zero]; rfl
          focus
            refine GOps.r rfl rfl rfl rfl (grd_build (cs := ?_) tab_is rfl rfl rfl ?_ rfl ?_) ?_
            rotate_left 1
            · decide
            · simp [gfill, gsets, Value.cells]; rfl
          focus
            refine GOps.w1 rfl rfl rfl rfl (gop_alloc' (id := ?_) ?_ tab_is rfl rfl ?_) ?_
            rotate_left 1
            · rfl
            · decide
          focus
            refine GOps.s rfl rfl rfl (gop_storeC (b := ?_) (cs := ?_) tab_is rfl rfl ?_ rfl rfl ?_ ?_ ?_ ?_ ?_ ?_) ?_
            rotate_left 2
            · rfl
            · rfl
            · exact Hp.at_push_eq
            · rfl
            · exact Nat.le_of_ble_eq_true rfl
            · exact .inr (by simp; omega)
            · simp [splice, Value.cells]; rfl
          refine GOps.nil ?_
          refine GWP.seq ?_
          refine GWP.region ?_
          refine GOps.r rfl rfl rfl rfl (grd_move rfl rfl) ?_
          focus
            refine gops_bs rfl rfl rfl rfl (grd_slBS (l := ?_) (h := ?_) (m2 := ?_) (L := ?_) (M := ?_) tab_is rfl rfl rfl rfl ?_ ?_ ?_ ?_ ?_ ?_ ?_) ?_
            rotate_left 5
            refine BS.ext (by assumption) ?_
            refine HExt.put ?_ ?_
            refine HExt.push ?_
            · exact HExt.refl _ _
            · exact .inr (by omega)
            · refine gbound_const ?_; exact rfl
            · exact rfl
            · exact Nat.le_of_ble_eq_true rfl
            · omega
            · simp; rfl
            · refine Eq.trans (List.take_of_length_le ?_) ?_; rotate_left 1; rfl; (simp; done)
          intro pk6 ck6 k6
          have k6n := BS.len k6
          focus
            refine GOps.r rfl rfl rfl rfl (grd_build (cs := ?_) tab_is rfl rfl rfl ?_ rfl ?_) ?_
            rotate_left 1
            · decide
            · simp [gfill, gsets, Value.cells]; rfl
          focus
            refine GOps.w1 rfl rfl rfl rfl (gop_box' (id := ?_) ?_ rfl rfl rfl) ?_
            rotate_left 1
            · simp; rfl
          refine GOps.r rfl rfl rfl rfl (grd_assign rfl rfl) ?_
          refine GOps.nil ?_
          refine GWP.seq ?_
          refine GWP.seq ?_
          refine GWP.region ?_
          refine GOps.r rfl rfl rfl rfl (grd_fieldAddr tab_is rfl rfl rfl rfl rfl) ?_
          focus
            refine GOps.r rfl rfl rfl rfl (grd_load1 (b := ?_) (v := ?_) tab_is rfl rfl rfl rfl ?_ ?_) ?_
            rotate_left 2
            refine (Hp.at_push_lt ?_).trans ?_
            · simp; done
            refine Hp.at_put_eq ?_
            · simp; done
            · rfl
          refine GOps.r rfl rfl rfl rfl (grd_eql rfl rfl rfl) ?_
          refine GOps.nil ?_
          refine GWP.cond_f rfl ?_ ?_
          · exact decide_eq_false (by omega)
          refine GWP.seq ?_
          refine GWP.region ?_
          refine GOps.r rfl rfl rfl rfl (grd_assign rfl rfl) ?_
          refine GOps.nil ?_
          refine GWP.block ?_
          refine GWP.loopN 6 ?_
          refine GRounds.step ?_
          refine GWP.seq ?_
          refine GWP.seq ?_
          refine GWP.region ?_
          refine GOps.r rfl rfl rfl rfl (grd_move rfl rfl) ?_
          refine GOps.r rfl rfl rfl rfl (grd_lss rfl rfl rfl) ?_
          refine GOps.nil ?_
          refine GWP.cond_t rfl ?_ ?_
          · exact decide_eq_true (by omega)
          refine GWP.skip ?_
          refine GWP.seq ?_
          refine GWP.block ?_
          refine GWP.region ?_
          refine GOps.r rfl rfl rfl rfl (grd_move rfl rfl) ?_
          refine GOps.r rfl rfl rfl rfl (grd_move rfl rfl) ?_
          focus
            refine GOps.w rfl rfl rfl rfl (gop_call rfl Try.call27 rfl ?_ (g_rnum _ _ h1 _ _ ?_ ?_ ?_)) ?_
            · simp [Ctx.may]; omega
            rotate_left 2
            refine rg_mk (b := ?_) ?_ ?_ ?_ ?_
            rotate_left 1
            refine Hp.at_push_id ?_
            · simp; done
            · rfl
            refine BS.ext (by assumption) ?_
            refine HExt.push ?_
            · exact HExt.refl _ _
            · simp only; omega
          rintro _ _ ⟨rfl, ⟨pk7, ck8, rk9⟩, kk10, xk11⟩
          have xk11l := HExt.len xk11; try simp at xk11l
          have rk9g := RG.hg rk9; unfold rdBlk at rk9g
          refine GOps.r rfl rfl rfl rfl (grd_conv_in tab_is rfl rfl rfl rfl rfl ?_) ?_
          · refine wrap_i64_in ?_; omega
          refine GOps.r rfl rfl rfl rfl (grd_fieldAddr tab_is rfl rfl rfl rfl rfl) ?_
          refine GOps.r rfl rfl rfl rfl (grd_indexAddrA1 tab_is rfl rfl rfl rfl rfl ?_) ?_
          · simp; done
          focus
            refine GOps.s rfl rfl rfl (gop_store1 (b := ?_) tab_is rfl rfl rfl rfl rfl rfl ?_ ?_ ?_ ?_) ?_
            rotate_left 1
            refine (HExt.eq (by assumption) _ ?_ ?_).trans ?_
            · simp; omega
            · simp; done
            refine (Hp.at_push_lt ?_).trans ?_
            · simp; done
            refine Hp.at_put_eq ?_
            · simp; done
            · rfl
            · exact Nat.le_of_ble_eq_true rfl
            · exact .inr (by simp; omega)
          refine GOps.nil ?_
          refine GWP.region ?_
          refine GOps.r rfl rfl rfl rfl (grd_move rfl rfl) ?_
          refine GOps.r rfl rfl rfl rfl (grd_add64 rfl rfl rfl ?_) ?_
          · omega
          refine GOps.r rfl rfl rfl rfl (grd_assign rfl rfl) ?_
          refine GOps.nil ?_
          refine GRounds.step ?_
          refine GWP.seq ?_
          refine GWP.seq ?_
          refine GWP.region ?_
          refine GOps.r rfl rfl rfl rfl (grd_move rfl rfl) ?_
          refine GOps.r rfl rfl rfl rfl (grd_lss rfl rfl rfl) ?_
          refine GOps.nil ?_
          refine GWP.cond_t rfl ?_ ?_
          · exact decide_eq_true (by omega)
          refine GWP.skip ?_
          refine GWP.seq ?_
          refine GWP.block ?_
          refine GWP.region ?_
          refine GOps.r rfl rfl rfl rfl (grd_move rfl rfl) ?_
          refine GOps.r rfl rfl rfl rfl (grd_move rfl rfl) ?_
          focus
            refine GOps.w rfl rfl rfl rfl (gop_call rfl Try.call27 rfl ?_ (g_rnum _ _ h2 _ _ ?_ ?_ ?_)) ?_
            · simp [Ctx.may]; omega
            rotate_left 2
            refine rg_set (by assumption) ?_ ?_ ?_
            refine (HExt.eq (by assumption) _ ?_ ?_).trans ?_
            · simp; omega
            · simp; done
            refine (Hp.at_push_lt ?_).trans ?_
            · simp; done
            refine Hp.at_put_eq ?_
            · simp; done
            · omega
            · rfl
          rintro _ _ ⟨rfl, ⟨pk12, ck13, rk14⟩, kk15, xk16⟩
          have xk16l := HExt.len xk16; try simp at xk16l
          have rk14g := RG.hg rk14; unfold rdBlk at rk14g
          refine GOps.r rfl rfl rfl rfl (grd_conv_in tab_is rfl rfl rfl rfl rfl ?_) ?_
          · refine wrap_i64_in ?_; omega
          refine GOps.r rfl rfl rfl rfl (grd_fieldAddr tab_is rfl rfl rfl rfl rfl) ?_
          refine GOps.r rfl rfl rfl rfl (grd_indexAddrA1 tab_is rfl rfl rfl rfl rfl ?_) ?_
          · simp; done
          focus
            refine GOps.s rfl rfl rfl (gop_store1 (b := ?_) tab_is rfl rfl rfl rfl rfl rfl ?_ ?_ ?_ ?_) ?_
            rotate_left 1
            refine (HExt.eq (by assumption) _ ?_ ?_).trans ?_
            · simp; omega
            · simp; done
            refine Hp.at_put_eq ?_
            · omega
            · rfl
            · exact Nat.le_of_ble_eq_true rfl
            · exact .inr (by simp; omega)
          refine GOps.nil ?_
          refine GWP.region ?_
          refine GOps.r rfl rfl rfl rfl (grd_move rfl rfl) ?_
          refine GOps.r rfl rfl rfl rfl (grd_add64 rfl rfl rfl ?_) ?_
          · omega
          refine GOps.r rfl rfl rfl rfl (grd_assign rfl rfl) ?_
          refine GOps.nil ?_
          refine GRounds.step ?_
          refine GWP.seq ?_
          refine GWP.seq ?_
          refine GWP.region ?_
          refine GOps.r rfl rfl rfl rfl (grd_move rfl rfl) ?_
          refine GOps.r rfl rfl rfl rfl (grd_lss rfl rfl rfl) ?_
          refine GOps.nil ?_
          refine GWP.cond_t rfl ?_ ?_
          · exact decide_eq_true (by omega)
          refine GWP.skip ?_
          refine GWP.seq ?_
          refine GWP.block ?_
          refine GWP.region ?_
          refine GOps.r rfl rfl rfl rfl (grd_move rfl rfl) ?_
          refine GOps.r rfl rfl rfl rfl (grd_move rfl rfl) ?_
          focus
            refine GOps.w rfl rfl rfl rfl (gop_call rfl Try.call27 rfl ?_ (g_rnum _ _ h3 _ _ ?_ ?_ ?_)) ?_
            · simp [Ctx.may]; omega
            rotate_left 2
            refine rg_set (by assumption) ?_ ?_ ?_
            refine (HExt.eq (by assumption) _ ?_ ?_).trans ?_
            · simp; omega
            · simp; done
            refine Hp.at_put_eq ?_
            · omega
            · omega
            · rfl
          rintro _ _ ⟨rfl, ⟨pk17, ck18, rk19⟩, kk20, xk21⟩
          have xk21l := HExt.len xk21; try simp at xk21l
          have rk19g := RG.hg rk19; unfold rdBlk at rk19g
          refine GOps.r rfl rfl rfl rfl (grd_conv_in tab_is rfl rfl rfl rfl rfl ?_) ?_
          · refine wrap_i64_in ?_; omega
          refine GOps.r rfl rfl rfl rfl (grd_fieldAddr tab_is rfl rfl rfl rfl rfl) ?_
          refine GOps.r rfl rfl rfl rfl (grd_indexAddrA1 tab_is rfl rfl rfl rfl rfl ?_) ?_
          · simp; done
          focus
            refine GOps.s rfl rfl rfl (gop_store1 (b := ?_) tab_is rfl rfl rfl rfl rfl rfl ?_ ?_ ?_ ?_) ?_
            rotate_left 1
            refine (HExt.eq (by assumption) _ ?_ ?_).trans ?_
            · simp; omega
            · simp; done
            refine Hp.at_put_eq ?_
            · omega
            · rfl
            · exact Nat.le_of_ble_eq_true rfl
            · exact .inr (by simp; omega)
          refine GOps.nil ?_
          refine GWP.region ?_
          refine GOps.r rfl rfl rfl rfl (grd_move rfl rfl) ?_
          refine GOps.r rfl rfl rfl rfl (grd_add64 rfl rfl rfl ?_) ?_
          · omega
          refine GOps.r rfl rfl rfl rfl (grd_assign rfl rfl) ?_
          refine GOps.nil ?_
          refine GRounds.step ?_
          refine GWP.seq ?_
          refine GWP.seq ?_
          refine GWP.region ?_
          refine GOps.r rfl rfl rfl rfl (grd_move rfl rfl) ?_
          refine GOps.r rfl rfl rfl rfl (grd_lss rfl rfl rfl) ?_
          refine GOps.nil ?_
          refine GWP.cond_t rfl ?_ ?_
          · exact decide_eq_true (by omega)
          refine GWP.skip ?_
          refine GWP.seq ?_
          refine GWP.block ?_
          refine GWP.region ?_
          refine GOps.r rfl rfl rfl rfl (grd_move rfl rfl) ?_
          refine GOps.r rfl rfl rfl rfl (grd_move rfl rfl) ?_
          focus
            refine GOps.w rfl rfl rfl rfl (gop_call rfl Try.call27 rfl ?_ (g_rnum _ _ h4 _ _ ?_ ?_ ?_)) ?_
            · simp [Ctx.may]; omega
            rotate_left 2
            refine rg_set (by assumption) ?_ ?_ ?_
            refine (HExt.eq (by assumption) _ ?_ ?_).trans ?_
            · simp; omega
            · simp; done
            refine Hp.at_put_eq ?_
            · omega
            · omega
            · rfl
          rintro _ _ ⟨rfl, ⟨pk22, ck23, rk24⟩, kk25, xk26⟩
          have xk26l := HExt.len xk26; try simp at xk26l
          have rk24g := RG.hg rk24; unfold rdBlk at rk24g
          refine GOps.r rfl rfl rfl rfl (grd_conv_in tab_is rfl rfl rfl rfl rfl ?_) ?_
          · refine wrap_i64_in ?_; omega
          refine GOps.r rfl rfl rfl rfl (grd_fieldAddr tab_is rfl rfl rfl rfl rfl) ?_
          refine GOps.r rfl rfl rfl rfl (grd_indexAddrA1 tab_is rfl rfl rfl rfl rfl ?_) ?_
          · simp; done
          focus
            refine GOps.s rfl rfl rfl (gop_store1 (b := ?_) tab_is rfl rfl rfl rfl rfl rfl ?_ ?_ ?_ ?_) ?_
            rotate_left 1
            refine (HExt.eq (by assumption) _ ?_ ?_).trans ?_
            · simp; omega
            · simp; done
            refine Hp.at_put_eq ?_
            · omega
            · rfl
            · exact Nat.le_of_ble_eq_true rfl
            · exact .inr (by simp; omega)
          refine GOps.nil ?_
          refine GWP.region ?_
          refine GOps.r rfl rfl rfl rfl (grd_move rfl rfl) ?_
          refine GOps.r rfl rfl rfl rfl (grd_add64 rfl rfl rfl ?_) ?_
          · omega
          refine GOps.r rfl rfl rfl rfl (grd_assign rfl rfl) ?_
          refine GOps.nil ?_
          refine GRounds.step ?_
          refine GWP.seq ?_
          refine GWP.seq ?_
          refine GWP.region ?_
          refine GOps.r rfl rfl rfl rfl (grd_move rfl rfl) ?_
          refine GOps.r rfl rfl rfl rfl (grd_lss rfl rfl rfl) ?_
          refine GOps.nil ?_
          refine GWP.cond_t rfl ?_ ?_
          · exact decide_eq_true (by omega)
          refine GWP.skip ?_
          refine GWP.seq ?_
          refine GWP.block ?_
          refine GWP.region ?_
          refine GOps.r rfl rfl rfl rfl (grd_move rfl rfl) ?_
          refine GOps.r rfl rfl rfl rfl (grd_move rfl rfl) ?_
          focus
            refine GOps.w rfl rfl rfl rfl (gop_call rfl Try.call27 rfl ?_ (g_rnum _ _ h5 _ _ ?_ ?_ ?_)) ?_
            · simp [Ctx.may]; omega
            rotate_left 2
            refine rg_set (by assumption) ?_ ?_ ?_
            refine (HExt.eq (by assumption) _ ?_ ?_).trans ?_
            · simp; omega
            · simp; done
            refine Hp.at_put_eq ?_
            · omega
            · omega
            · rfl
          rintro _ _ ⟨rfl, ⟨pk27, ck28, rk29⟩, kk30, xk31⟩
          have xk31l := HExt.len xk31; try simp at xk31l
          have rk29g := RG.hg rk29; unfold rdBlk at rk29g
          refine GOps.r rfl rfl rfl rfl (grd_conv_in tab_is rfl rfl rfl rfl rfl ?_) ?_
          · refine wrap_i64_in ?_; omega
          refine GOps.r rfl rfl rfl rfl (grd_fieldAddr tab_is rfl rfl rfl rfl rfl) ?_
          refine GOps.r rfl rfl rfl rfl (grd_indexAddrA1 tab_is rfl rfl rfl rfl rfl ?_) ?_
          · simp; done
          focus
            refine GOps.s rfl rfl rfl (gop_store1 (b := ?_) tab_is rfl rfl rfl rfl rfl rfl ?_ ?_ ?_ ?_) ?_
            rotate_left 1
            refine (HExt.eq (by assumption) _ ?_ ?_).trans ?_
            · simp; omega
            · simp; done
            refine Hp.at_put_eq ?_
            · omega
            · rfl
            · exact Nat.le_of_ble_eq_true rfl
            · exact .inr (by simp; omega)
          refine GOps.nil ?_
          refine GWP.region ?_
          refine GOps.r rfl rfl rfl rfl (grd_move rfl rfl) ?_
          refine GOps.r rfl rfl rfl rfl (grd_add64 rfl rfl rfl ?_) ?_
          · omega
          refine GOps.r rfl rfl rfl rfl (grd_assign rfl rfl) ?_
          refine GOps.nil ?_
          refine GRounds.step ?_
          refine GWP.seq ?_
          refine GWP.seq ?_
          refine GWP.region ?_
          refine GOps.r rfl rfl rfl rfl (grd_move rfl rfl) ?_
          refine GOps.r rfl rfl rfl rfl (grd_lss rfl rfl rfl) ?_
          refine GOps.nil ?_
          refine GWP.cond_f rfl ?_ ?_
          · exact decide_eq_false (by omega)
          refine GWP.exit ?_
          refine GWP.seq ?_
          refine GWP.region ?_
          focus
            refine GOps.r rfl rfl rfl rfl (grd_loadNK (b := ?_) (cs := ?_) tab_is rfl rfl rfl rfl ?_ ?_ ?_) ?_
            rotate_left 2
            refine Hp.at_put_eq ?_
            · omega
            · exact Nat.le_of_ble_eq_true rfl
            · simp [Value.cells]; rfl
          refine GOps.w rfl rfl rfl rfl (gop_call rfl Try.call28 rfl ?_ (g_rightN _ _ _ _ _ _ _ ?_ ?_ ?_ ?_ ?_ ?_)) ?_
          · intro _ h; cases h; done
          · omega
          · omega
          · omega
          · omega
          · omega
          · omega
          rintro _ _ ⟨rfl, xk32⟩
          have xk32l := HExt.len xk32; try simp at xk32l
          refine GOps.r rfl rfl rfl rfl (grd_assign rfl rfl) ?_
          refine GOps.nil ?_
          refine GWP.seq ?_
          refine GWP.seq ?_
          refine GWP.region ?_
          refine GOps.r rfl rfl rfl rfl (grd_move rfl rfl) ?_
          refine GOps.r rfl rfl rfl rfl (grd_nil rfl rfl) ?_
          refine GOps.r rfl rfl rfl rfl (grd_fieldAddr tab_is rfl rfl rfl rfl rfl) ?_
          focus
            refine GOps.r rfl rfl rfl rfl (grd_load1 (b := ?_) (v := ?_) tab_is rfl rfl rfl rfl ?_ ?_) ?_
            rotate_left 2
            refine (HExt.eq (by assumption) _ ?_ ?_).trans ?_
            · simp; omega
            · intro h; cases h; done
            refine (Hp.at_put_ne ?_).trans ?_
            · omega
            · assumption
            · rfl
          refine GOps.r rfl rfl rfl rfl (grd_neq rfl rfl rfl) ?_
          refine GOps.r rfl rfl rfl rfl (grd_move rfl rfl) ?_
          refine GOps.split rfl rfl (fun k33 => ?_) (fun k33 => ?_)
          simp only [beq_true, beq_false, Bool.not_true, Bool.not_false, Bool.not_eq_true', Bool.not_eq_false', decide_eq_true_eq, decide_eq_false_iff_not] at k33
          refine GOps.take rfl rfl ?_ ?_
          · exact beq_iff_eq.2 (decide_eq_false (by assumption))
          refine GOps.r rfl rfl rfl rfl (grd_move rfl rfl) ?_
          refine GOps.take rfl rfl ?_ ?_
          · exact beq_iff_eq.2 (decide_eq_false (by assumption))
          refine GOps.r rfl rfl rfl rfl (grd_nil rfl rfl) ?_
          refine GOps.take rfl rfl ?_ ?_
          · exact beq_iff_eq.2 (decide_eq_false (by assumption))
          refine GOps.r rfl rfl rfl rfl (grd_fieldAddr tab_is rfl rfl rfl rfl rfl) ?_
          refine GOps.take rfl rfl ?_ ?_
          · exact beq_iff_eq.2 (decide_eq_false (by assumption))
          focus
            refine GOps.r rfl rfl rfl rfl (grd_load1 (b := ?_) (v := ?_) tab_is rfl rfl rfl rfl ?_ ?_) ?_
            rotate_left 2
            refine (HExt.eq (by assumption) _ ?_ ?_).trans ?_
            · simp; omega
            · intro h; cases h; done
            refine (Hp.at_put_ne ?_).trans ?_
            · omega
            · assumption
            · rfl
          refine GOps.take rfl rfl ?_ ?_
          · exact beq_iff_eq.2 (decide_eq_false (by assumption))
          refine GOps.r rfl rfl rfl rfl (grd_len tab_is rfl rfl rfl rfl rfl) ?_
          refine GOps.take rfl rfl ?_ ?_
          · exact beq_iff_eq.2 (decide_eq_false (by assumption))
          refine GOps.r rfl rfl rfl rfl (grd_gtr rfl rfl rfl) ?_
          refine GOps.r rfl rfl rfl rfl (grd_pick_f rfl rfl ?_ rfl) ?_
          · exact decide_eq_false (by assumption)
          refine GOps.r rfl rfl rfl rfl (grd_move rfl rfl) ?_
          refine GOps.split rfl rfl (fun k34 => ?_) (fun k34 => ?_)
          simp only [beq_true, beq_false, Bool.not_true, Bool.not_false, Bool.not_eq_true', Bool.not_eq_false', decide_eq_true_eq, decide_eq_false_iff_not] at k34
          refine GOps.take rfl rfl ?_ ?_
          · exact beq_iff_eq.2 (decide_eq_false (by assumption))
          refine GOps.r rfl rfl rfl rfl (grd_move rfl rfl) ?_
          refine GOps.take rfl rfl ?_ ?_
          · exact beq_iff_eq.2 (decide_eq_false (by assumption))
          refine GOps.r rfl rfl rfl rfl (grd_not rfl rfl) ?_
          refine GOps.r rfl rfl rfl rfl (grd_pick_f rfl rfl ?_ rfl) ?_
          · exact decide_eq_false (by assumption)
          refine GOps.nil ?_
          refine GWP.cond rfl (fun k35 => ?_) (fun k35 => ?_)
          simp only [beq_true, beq_false, Bool.not_true, Bool.not_false, Bool.not_eq_true', Bool.not_eq_false', decide_eq_true_eq, decide_eq_false_iff_not] at k35
          refine GWP.seq ?_
          refine GWP.region ?_
          focus
            refine GOps.r rfl rfl rfl rfl (grd_build (cs := ?_) tab_is rfl rfl rfl ?_ rfl ?_) ?_
            rotate_left 1
            · decide
            · simp [gfill, gsets, Value.cells]; rfl
          focus
            refine GOps.s rfl rfl rfl (gop_storeC (b := ?_) (cs := ?_) tab_is rfl rfl ?_ rfl rfl ?_ ?_ ?_ ?_ ?_ ?_) ?_
            rotate_left 2
            · rfl
            · rfl
            refine (HExt.eq (by assumption) _ ?_ ?_).trans ?_
            · simp; omega
            · intro h; cases h; done
            refine (Hp.at_put_ne ?_).trans ?_
            · omega
            refine (HExt.eq (by assumption) _ ?_ ?_).trans ?_
            · simp; omega
            · simp; omega
            refine (Hp.at_put_ne ?_).trans ?_
            · omega
            refine (HExt.eq (by assumption) _ ?_ ?_).trans ?_
            · simp; omega
            · simp; omega
            refine (Hp.at_put_ne ?_).trans ?_
            · omega
            refine (HExt.eq (by assumption) _ ?_ ?_).trans ?_
            · simp; omega
            · simp; omega
            refine (Hp.at_put_ne ?_).trans ?_
            · omega
            refine (HExt.eq (by assumption) _ ?_ ?_).trans ?_
            · simp; omega
            · simp; omega
            refine (Hp.at_put_ne ?_).trans ?_
            · omega
            refine (HExt.eq (by assumption) _ ?_ ?_).trans ?_
            · simp; omega
            · simp; omega
            refine (Hp.at_push_lt ?_).trans ?_
            · simp; omega
            refine (Hp.at_put_ne ?_).trans ?_
            · omega
            refine (Hp.at_push_lt ?_).trans ?_
            · omega
            refine (HExt.eq (by assumption) _ ?_ ?_).trans ?_
            · simp; done
            · intro h; cases h; done
            · exact Hp.at_push_eq
            · rfl
            · decide
            · exact .inr (by simp)
            · simp [splice, Value.cells]; rfl
          refine GOps.r rfl rfl rfl rfl (grd_assign rfl rfl) ?_
          refine GOps.nil ?_
          refine GWP.ret ?_
          focus
            refine ⟨_, (.two (gres_cellNK (b := ?_) (cs := ?_) rfl rfl rfl ?_ ?_ ?_) (.one rfl)), ?_⟩
            rotate_left 2
            refine Hp.at_put_eq ?_
            · omega
            · decide
            · simp [Value.cells]; rfl
          refine ⟨?_, ?_⟩
          · rw [regN, if_pos (by omega)]; rfl
          refine HExt.put ?_ ?_
          refine HExt.tr ?_ (by assumption) ?_
          refine HExt.put ?_ ?_
          refine HExt.tr ?_ (by assumption) ?_
          refine HExt.put ?_ ?_
          refine HExt.tr ?_ (by assumption) ?_
          refine HExt.put ?_ ?_
          refine HExt.tr ?_ (by assumption) ?_
          refine HExt.put ?_ ?_
          refine HExt.tr ?_ (by assumption) ?_
          refine HExt.put ?_ ?_
          refine HExt.tr ?_ (by assumption) ?_
          refine HExt.push ?_
          refine HExt.put ?_ ?_
          refine HExt.push ?_
          refine HExt.tr ?_ (by assumption) ?_
          refine HExt.push ?_
          · exact HExt.refl _ _
          · intro _ h; cases h; done
          · exact .inr (by omega)
          · simp; omega
          · exact .inr (by omega)
          · simp; omega
          · exact .inr (by omega)
          · simp; omega
          · exact .inr (by omega)
          · simp; omega
          · exact .inr (by omega)
          · simp; omega
          · exact .inr (by omega)
          · intro _ h; cases h; done
          · exact .inr (by omega)
          simp only [beq_true, beq_false, Bool.not_true, Bool.not_false, Bool.not_eq_true', Bool.not_eq_false', decide_eq_true_eq, decide_eq_false_iff_not] at k35
          refine GWP.skip ?_
          refine GWP.seq ?_
          refine GWP.region ?_
          focus
            refine GOps.r rfl rfl rfl rfl (grd_loadNK (b := ?_) (cs := ?_) tab_is rfl rfl rfl rfl ?_ ?_ ?_) ?_
            rotate_left 2
            refine (HExt.eq (by assumption) _ ?_ ?_).trans ?_
            · simp; omega
            · intro h; cases h; done
            refine Hp.at_put_eq ?_
            · omega
            · exact Nat.le_of_ble_eq_true rfl
            · simp [Value.cells]; rfl
          focus
            refine GOps.s rfl rfl rfl (gop_storeC (b := ?_) (cs := ?_) tab_is rfl rfl ?_ rfl rfl ?_ ?_ ?_ ?_ ?_ ?_) ?_
            rotate_left 2
            · rfl
            · rfl
            refine (HExt.eq (by assumption) _ ?_ ?_).trans ?_
            · simp; omega
            · intro h; cases h; done
            refine (Hp.at_put_ne ?_).trans ?_
            · omega
            refine (HExt.eq (by assumption) _ ?_ ?_).trans ?_
            · simp; omega
            · simp; omega
            refine (Hp.at_put_ne ?_).trans ?_
            · omega
            refine (HExt.eq (by assumption) _ ?_ ?_).trans ?_
            · simp; omega
            · simp; omega
            refine (Hp.at_put_ne ?_).trans ?_
            · omega
            refine (HExt.eq (by assumption) _ ?_ ?_).trans ?_
            · simp; omega
            · simp; omega
            refine (Hp.at_put_ne ?_).trans ?_
            · omega
            refine (HExt.eq (by assumption) _ ?_ ?_).trans ?_
            · simp; omega
            · simp; omega
            refine (Hp.at_put_ne ?_).trans ?_
            · omega
            refine (HExt.eq (by assumption) _ ?_ ?_).trans ?_
            · simp; omega
            · simp; omega
            refine (Hp.at_push_lt ?_).trans ?_
            · simp; omega
            refine (Hp.at_put_ne ?_).trans ?_
            · omega
            refine (Hp.at_push_lt ?_).trans ?_
            · omega
            refine (HExt.eq (by assumption) _ ?_ ?_).trans ?_
            · simp; done
            · intro h; cases h; done
            · exact Hp.at_push_eq
            · rfl
            · exact Nat.le_of_ble_eq_true rfl
            · exact .inr (by simp)
            · simp [splice, Value.cells]; rfl
          refine GOps.r rfl rfl rfl rfl (grd_assign rfl rfl) ?_
          refine GOps.nil ?_
          refine GWP.ret ?_
          focus
            refine ⟨_, (.two (gres_cellNK (b := ?_) (cs := ?_) rfl rfl rfl ?_ ?_ ?_) (.one rfl)), ?_⟩
            rotate_left 2
            refine Hp.at_put_eq ?_
            · omega
            · exact Nat.le_of_ble_eq_true rfl
            · simp [Value.cells]; rfl
          refine ⟨?_, ?_⟩
          · rw [regN, if_neg (by omega)]; rfl
          refine HExt.put ?_ ?_
          refine HExt.tr ?_ (by assumption) ?_
          refine HExt.put ?_ ?_
          refine HExt.tr ?_ (by assumption) ?_
          refine HExt.put ?_ ?_
          refine HExt.tr ?_ (by assumption) ?_
          refine HExt.put ?_ ?_
          refine HExt.tr ?_ (by assumption) ?_
          refine HExt.put ?_ ?_
          refine HExt.tr ?_ (by assumption) ?_
          refine HExt.put ?_ ?_
          refine HExt.tr ?_ (by assumption) ?_
          refine HExt.push ?_
          refine HExt.put ?_ ?_
          refine HExt.push ?_
          refine HExt.tr ?_ (by assumption) ?_
          refine HExt.push ?_
          · exact HExt.refl _ _
          · intro _ h; cases h; done
          · exact .inr (by omega)
          · simp; omega
          · exact .inr (by omega)
          · simp; omega
          · exact .inr (by omega)
          · simp; omega
          · exact .inr (by omega)
          · simp; omega
          · exact .inr (by omega)
          · simp; omega
          · exact .inr (by omega)
          · intro _ h; cases h; done
          · exact .inr (by omega)
          simp only [beq_true, beq_false, Bool.not_true, Bool.not_false, Bool.not_eq_true', Bool.not_eq_false', decide_eq_true_eq, decide_eq_false_iff_not] at k34
          refine GOps.no rfl ?_ rfl rfl ?_
          · exact beq_eq_false_iff_ne.2 (by rw [decide_eq_true (by assumption)]; decide)
          refine GOps.no rfl ?_ rfl rfl ?_
          · exact beq_eq_false_iff_ne.2 (by rw [decide_eq_true (by assumption)]; decide)
          refine GOps.r rfl rfl rfl rfl (grd_pick_t rfl rfl ?_ rfl) ?_
          · exact decide_eq_true (by assumption)
          refine GOps.nil ?_
          refine GWP.cond_t rfl ?_ ?_
          · with_reducible rfl
          refine GWP.seq ?_
          refine GWP.region ?_
          focus
            refine GOps.r rfl rfl rfl rfl (grd_build (cs := ?_) tab_is rfl rfl rfl ?_ rfl ?_) ?_
            rotate_left 1
            · decide
            · simp [gfill, gsets, Value.cells]; rfl
          focus
            refine GOps.s rfl rfl rfl (gop_storeC (b := ?_) (cs := ?_) tab_is rfl rfl ?_ rfl rfl ?_ ?_ ?_ ?_ ?_ ?_) ?_
            rotate_left 2
            · rfl
            · rfl
            refine (HExt.eq (by assumption) _ ?_ ?_).trans ?_
            · simp; omega
            · intro h; cases h; done
            refine (Hp.at_put_ne ?_).trans ?_
            · omega
            refine (HExt.eq (by assumption) _ ?_ ?_).trans ?_
            · simp; omega
            · simp; omega
            refine (Hp.at_put_ne ?_).trans ?_
            · omega
            refine (HExt.eq (by assumption) _ ?_ ?_).trans ?_
            · simp; omega
            · simp; omega
            refine (Hp.at_put_ne ?_).trans ?_
            · omega
            refine (HExt.eq (by assumption) _ ?_ ?_).trans ?_
            · simp; omega
            · simp; omega
            refine (Hp.at_put_ne ?_).trans ?_
            · omega
            refine (HExt.eq (by assumption) _ ?_ ?_).trans ?_
            · simp; omega
            · simp; omega
            refine (Hp.at_put_ne ?_).trans ?_
            · omega
            refine (HExt.eq (by assumption) _ ?_ ?_).trans ?_
            · simp; omega
            · simp; omega
            refine (Hp.at_push_lt ?_).trans ?_
            · simp; omega
            refine (Hp.at_put_ne ?_).trans ?_
            · omega
            refine (Hp.at_push_lt ?_).trans ?_
            · omega
            refine (HExt.eq (by assumption) _ ?_ ?_).trans ?_
            · simp; done
            · intro h; cases h; done
            · exact Hp.at_push_eq
            · rfl
            · decide
            · exact .inr (by simp)
            · simp [splice, Value.cells]; rfl
          refine GOps.r rfl rfl rfl rfl (grd_assign rfl rfl) ?_
          refine GOps.nil ?_
          refine GWP.ret ?_
          focus
            refine ⟨_, (.two (gres_cellNK (b := ?_) (cs := ?_) rfl rfl rfl ?_ ?_ ?_) (.one rfl)), ?_⟩
            rotate_left 2
            refine Hp.at_put_eq ?_
            · omega
            · decide
            · simp [Value.cells]; rfl
          refine ⟨?_, ?_⟩
          · rw [regN, if_pos (by omega)]; rfl
          refine HExt.put ?_ ?_
          refine HExt.tr ?_ (by assumption) ?_
          refine HExt.put ?_ ?_
          refine HExt.tr ?_ (by assumption) ?_
          refine HExt.put ?_ ?_
          refine HExt.tr ?_ (by assumption) ?_
          refine HExt.put ?_ ?_
          refine HExt.tr ?_ (by assumption) ?_
          refine HExt.put ?_ ?_
          refine HExt.tr ?_ (by assumption) ?_
          refine HExt.put ?_ ?_
          refine HExt.tr ?_ (by assumption) ?_
          refine HExt.push ?_
          refine HExt.put ?_ ?_
          refine HExt.push ?_
          refine HExt.tr ?_ (by assumption) ?_
          refine HExt.push ?_
          · exact HExt.refl _ _
          · intro _ h; cases h; done
          · exact .inr (by omega)
          · simp; omega
          · exact .inr (by omega)
          · simp; omega
          · exact .inr (by omega)
          · simp; omega
          · exact .inr (by omega)
          · simp; omega
          · exact .inr (by omega)
          · simp; omega
          · exact .inr (by omega)
          · intro _ h; cases h; done
          · exact .inr (by omega)
          simp only [beq_true, beq_false, Bool.not_true, Bool.not_false, Bool.not_eq_true', Bool.not_eq_false', decide_eq_true_eq, decide_eq_false_iff_not] at k33
          refine GOps.no rfl ?_ rfl rfl ?_
          · exact beq_eq_false_iff_ne.2 (by rw [decide_eq_true (by assumption)]; decide)
          refine GOps.no rfl ?_ rfl rfl ?_
          · exact beq_eq_false_iff_ne.2 (by rw [decide_eq_true (by assumption)]; decide)
          refine GOps.no rfl ?_ rfl rfl ?_
          · exact beq_eq_false_iff_ne.2 (by rw [decide_eq_true (by assumption)]; decide)
          refine GOps.no rfl ?_ rfl rfl ?_
          · exact beq_eq_false_iff_ne.2 (by rw [decide_eq_true (by assumption)]; decide)
          refine GOps.no rfl ?_ rfl rfl ?_
          · exact beq_eq_false_iff_ne.2 (by rw [decide_eq_true (by assumption)]; decide)
          refine GOps.no rfl ?_ rfl rfl ?_
          · exact beq_eq_false_iff_ne.2 (by rw [decide_eq_true (by assumption)]; decide)
          refine GOps.r rfl rfl rfl rfl (grd_pick_t rfl rfl ?_ rfl) ?_
          · exact decide_eq_true (by assumption)
          refine GOps.r rfl rfl rfl rfl (grd_move rfl rfl) ?_
          refine GOps.no rfl ?_ rfl rfl ?_
          · simp; done
          refine GOps.no rfl ?_ rfl rfl ?_
          · simp; done
          refine GOps.r rfl rfl rfl rfl (grd_pick_t rfl rfl ?_ rfl) ?_
          · with_reducible rfl
          refine GOps.nil ?_
          refine GWP.cond_t rfl ?_ ?_
          · with_reducible rfl
          refine GWP.seq ?_
          refine GWP.region ?_
          focus
            refine GOps.r rfl rfl rfl rfl (grd_build (cs := ?_) tab_is rfl rfl rfl ?_ rfl ?_) ?_
            rotate_left 1
            · decide
            · simp [gfill, gsets, Value.cells]; rfl
          focus
            refine GOps.s rfl rfl rfl (gop_storeC (b := ?_) (cs := ?_) tab_is rfl rfl ?_ rfl rfl ?_ ?_ ?_ ?_ ?_ ?_) ?_
            rotate_left 2
            · rfl
            · rfl
            refine (HExt.eq (by assumption) _ ?_ ?_).trans ?_
            · simp; omega
            · intro h; cases h; done
            refine (Hp.at_put_ne ?_).trans ?_
            · omega
            refine (HExt.eq (by assumption) _ ?_ ?_).trans ?_
            · simp; omega
            · simp; omega
            refine (Hp.at_put_ne ?_).trans ?_
            · omega
            refine (HExt.eq (by assumption) _ ?_ ?_).trans ?_
            · simp; omega
            · simp; omega
            refine (Hp.at_put_ne ?_).trans ?_
            · omega
            refine (HExt.eq (by assumption) _ ?_ ?_).trans ?_
            · simp; omega
            · simp; omega
            refine (Hp.at_put_ne ?_).trans ?_
            · omega
            refine (HExt.eq (by assumption) _ ?_ ?_).trans ?_
            · simp; omega
            · simp; omega
            refine (Hp.at_put_ne ?_).trans ?_
            · omega
            refine (HExt.eq (by assumption) _ ?_ ?_).trans ?_
            · simp; omega
            · simp; omega
            refine (Hp.at_push_lt ?_).trans ?_
            · simp; omega
            refine (Hp.at_put_ne ?_).trans ?_
            · omega
            refine (Hp.at_push_lt ?_).trans ?_
            · omega
            refine (HExt.eq (by assumption) _ ?_ ?_).trans ?_
            · simp; done
            · intro h; cases h; done
            · exact Hp.at_push_eq
            · rfl
            · decide
            · exact .inr (by simp)
            · simp [splice, Value.cells]; rfl
          refine GOps.r rfl rfl rfl rfl (grd_assign rfl rfl) ?_
          refine GOps.nil ?_
          refine GWP.ret ?_
          focus
            refine ⟨_, (.two (gres_cellNK (b := ?_) (cs := ?_) rfl rfl rfl ?_ ?_ ?_) (.one rfl)), ?_⟩
            rotate_left 2
            refine Hp.at_put_eq ?_
            · omega
            · decide
            · simp [Value.cells]; rfl
          refine ⟨?_, ?_⟩
          · rw [regN, if_pos (by omega)]; rfl
          refine HExt.put ?_ ?_
          refine HExt.tr ?_ (by assumption) ?_
          refine HExt.put ?_ ?_
          refine HExt.tr ?_ (by assumption) ?_
          refine HExt.put ?_ ?_
          refine HExt.tr ?_ (by assumption) ?_
          refine HExt.put ?_ ?_
          refine HExt.tr ?_ (by assumption) ?_
          refine HExt.put ?_ ?_
          refine HExt.tr ?_ (by assumption) ?_
          refine HExt.put ?_ ?_
          refine HExt.tr ?_ (by assumption) ?_
          refine HExt.push ?_
          refine HExt.put ?_ ?_
          refine HExt.push ?_
          refine HExt.tr ?_ (by assumption) ?_
          refine HExt.push ?_
          · exact HExt.refl _ _
          · intro _ h; cases h; done
          · exact .inr (by omega)
          · simp; omega
          · exact .inr (by omega)
          · simp; omega
          · exact .inr (by omega)
          · simp; omega
          · exact .inr (by omega)
          · simp; omega
          · exact .inr (by omega)
          · simp; omega
          · exact .inr (by omega)
          · intro _ h; cases h; done
          · exact .inr (by omega)
end Go.Proofs.Ytjlimdiimdihfaa
