/- A tape of one piece, on the ghost side. -/
import Derived.Test.YtcbngjpihcemiaaZz2
namespace Go.Proofs.Ytcbngjpihcemiaa
open Go.RowKit

/-- A tape's block: room for 900 bytes, no bad places. -/
def tpB (q : Nat) (lv : Value) (at_ : Int) : Blk := ⟨66, 1, [.pointer (some ⟨q, 0, none⟩), .int .i64 900, .int .i64 0, .slice none 0 0, .slice none 0 0, lv, .int .i64 at_], true⟩
set_option maxHeartbeats 4000000 in
set_option maxRecDepth 100000 in
set_option linter.unusedSimpArgs false in
theorem g_clone0 (H : Hp) : GCalls Try.prog 86 [.slice none 0 0] [] H fun v H' => v = .slice none 0 0 ∧ H' = H := by
  refine GCalls.body tab_is Try.func86 rfl Try.results86 Try.ntmps86 (by simp) ?_ ?_
  · first | (intro _ h; cases h; done) | (simp; done) | (simp; omega) | (intro i hi; simp at hi; rcases hi with rfl | rfl <;> omega) | (intro i hi; simp at hi; rcases hi with rfl | rfl | rfl <;> omega)
  focus
    refine GWP.seq ?_
    refine GWP.region ?_
    refine GOps.r rfl rfl rfl rfl (grd_assign rfl rfl) ?_
    refine GOps.nil ?_
    refine GWP.seq ?_
    refine GWP.seq ?_
    refine GWP.region ?_
    refine GOps.r rfl rfl rfl rfl (grd_move rfl rfl) ?_
    refine GOps.r rfl rfl rfl rfl (grd_sleql tab_is rfl rfl rfl rfl rfl) ?_
    refine GOps.nil ?_
    refine GWP.cond_t rfl ?_ ?_
    · simp; done
    refine GWP.seq ?_
    refine GWP.region ?_
    refine GOps.r rfl rfl rfl rfl (grd_assign rfl rfl) ?_
    refine GOps.nil ?_
    refine GWP.ret ?_
    refine ⟨_, .one rfl, ?_⟩
    refine ⟨?_, ?_⟩
    · rfl
    · rfl
set_option maxHeartbeats 4000000 in
set_option maxRecDepth 100000 in
set_option linter.unusedSimpArgs false in
theorem g_index0 (H : Hp) (n : Int) : GCalls Try.prog 158 [.slice none 0 0, .int .i64 n] [] H fun v H' => v = .int .i64 (-1) ∧ H' = H := by
  refine GCalls.body tab_is Try.func158 rfl Try.results158 Try.ntmps158 (by simp) ?_ ?_
  · first | (intro _ h; cases h; done) | (simp; done) | (simp; omega) | (intro i hi; simp at hi; rcases hi with rfl | rfl <;> omega) | (intro i hi; simp at hi; rcases hi with rfl | rfl | rfl <;> omega)
  focus
    refine GWP.seq ?_
    refine GWP.region ?_
    refine GOps.r rfl rfl rfl rfl (grd_assign rfl rfl) ?_
    refine GOps.nil ?_
    refine GWP.seq ?_
    refine GWP.seq ?_
    refine GWP.region ?_
    refine GOps.r rfl rfl rfl rfl (grd_move rfl rfl) ?_
    refine GOps.r rfl rfl rfl rfl (grd_len tab_is rfl rfl rfl rfl rfl) ?_
    refine GOps.r rfl rfl rfl rfl (grd_move rfl rfl) ?_
    refine GOps.nil ?_
    refine GWP.block ?_
    refine GWP.loopN 2 ?_
    refine GRounds.step ?_
    refine GWP.seq ?_
    refine GWP.region ?_
    refine GOps.r rfl rfl rfl rfl (grd_lss rfl rfl rfl) ?_
    refine GOps.nil ?_
    refine GWP.seq ?_
    refine GWP.cond_f rfl ?_ ?_
    · exact decide_eq_false (by omega)
    refine GWP.exit ?_
    refine GWP.seq ?_
    refine GWP.region ?_
    refine GOps.r rfl rfl rfl rfl (grd_assign rfl rfl) ?_
    refine GOps.nil ?_
    refine GWP.ret ?_
    refine ⟨_, .one rfl, ?_⟩
    refine ⟨?_, ?_⟩
    · rfl
    · rfl
set_option maxHeartbeats 4000000 in
set_option maxRecDepth 100000 in
set_option linter.unusedSimpArgs false in
theorem g_contains0 (H : Hp) (n : Int) : GCalls Try.prog 136 [.slice none 0 0, .int .i64 n] [] H fun v H' => v = .bool false ∧ H' = H := by
  refine GCalls.body tab_is Try.func136 rfl Try.results136 Try.ntmps136 (by simp) ?_ ?_
  · first | (intro _ h; cases h; done) | (simp; done) | (simp; omega) | (intro i hi; simp at hi; rcases hi with rfl | rfl <;> omega) | (intro i hi; simp at hi; rcases hi with rfl | rfl | rfl <;> omega)
  focus
    refine GWP.seq ?_
    refine GWP.region ?_
    refine GOps.r rfl rfl rfl rfl (grd_assign rfl rfl) ?_
    refine GOps.nil ?_
    refine GWP.seq ?_
    refine GWP.region ?_
    refine GOps.r rfl rfl rfl rfl (grd_move rfl rfl) ?_
    refine GOps.r rfl rfl rfl rfl (grd_move rfl rfl) ?_
    refine GOps.w1 rfl rfl rfl rfl (gop_call rfl Try.call158 rfl ?_ (g_index0 _ _)) ?_
    · intro _ h; cases h; done
    refine GOps.r rfl rfl rfl rfl (grd_geq rfl rfl rfl) ?_
    refine GOps.r rfl rfl rfl rfl (grd_assign rfl rfl) ?_
    refine GOps.nil ?_
    refine GWP.ret ?_
    refine ⟨_, .one rfl, ?_⟩
    refine ⟨?_, ?_⟩
    · rfl
    · rfl
set_option maxHeartbeats 4000000 in
set_option maxRecDepth 100000 in
set_option linter.unusedSimpArgs false in
theorem g_tnew0 (H : Hp) (q : Nat) : GCalls Try.prog 27 [.agg #[.int .i64 900, .int .i64 0, .slice none 0 0, .slice none 0 0], .pointer (some ⟨q, 0, none⟩)] [] H fun v H' => (∃ g, v = .tuple #[.pointer (some ⟨g, 0, none⟩), .int .i64 0] ∧ H.length ≤ g ∧ H'.at g = some (tpB q (.slice none 0 0) 0)) ∧ HExt [] H H' := by
  unfold tpB
  refine GCalls.body tab_is Try.func27 rfl Try.results27 Try.ntmps27 (by simp) ?_ ?_
  · first | (intro _ h; cases h; done) | (simp; done) | (simp; omega) | (intro i hi; simp at hi; rcases hi with rfl | rfl <;> omega) | (intro i hi; simp at hi; rcases hi with rfl | rfl | rfl <;> omega)
  focus
    refine GWP.seq ?_
    refine GWP.region ?_
    focus
      refine GOps.w1 rfl rfl rfl rfl (gop_box' (id := ?_) ?_ rfl rfl rfl) ?_
      rotate_left 1
      · rfl
    refine GOps.r rfl rfl rfl rfl (grd_assign rfl rfl) ?_
    refine GOps.r rfl rfl rfl rfl (grd_assign rfl rfl) ?_
    refine GOps.nil ?_
    refine GWP.seq ?_
    refine GWP.seq ?_
    refine GWP.region ?_
    refine GOps.r rfl rfl rfl rfl (grd_fieldAddr tab_is rfl rfl rfl rfl rfl) ?_
    focus
      refine GOps.r rfl rfl rfl rfl (grd_load1 (b := ?_) (v := ?_) tab_is rfl rfl rfl rfl ?_ ?_) ?_
      rotate_left 2
      · exact Hp.at_push_eq
      · rfl
    refine GOps.r rfl rfl rfl rfl (grd_lss rfl rfl rfl) ?_
    refine GOps.r rfl rfl rfl rfl (grd_move rfl rfl) ?_
    refine GOps.take rfl rfl ?_ ?_
    · simp; done
    refine GOps.r rfl rfl rfl rfl (grd_fieldAddr tab_is rfl rfl rfl rfl rfl) ?_
    refine GOps.take rfl rfl ?_ ?_
    · simp; done
    focus
      refine GOps.r rfl rfl rfl rfl (grd_load1 (b := ?_) (v := ?_) tab_is rfl rfl rfl rfl ?_ ?_) ?_
      rotate_left 2
      · exact Hp.at_push_eq
      · rfl
    refine GOps.take rfl rfl ?_ ?_
    · simp; done
    refine GOps.r rfl rfl rfl rfl (grd_gtr rfl rfl rfl) ?_
    refine GOps.r rfl rfl rfl rfl (grd_pick_f rfl rfl ?_ rfl) ?_
    · exact decide_eq_false (by omega)
    refine GOps.r rfl rfl rfl rfl (grd_move rfl rfl) ?_
    refine GOps.take rfl rfl ?_ ?_
    · simp; done
    refine GOps.r rfl rfl rfl rfl (grd_fieldAddr tab_is rfl rfl rfl rfl rfl) ?_
    refine GOps.take rfl rfl ?_ ?_
    · simp; done
    focus
      refine GOps.r rfl rfl rfl rfl (grd_load1 (b := ?_) (v := ?_) tab_is rfl rfl rfl rfl ?_ ?_) ?_
      rotate_left 2
      · exact Hp.at_push_eq
      · rfl
    refine GOps.take rfl rfl ?_ ?_
    · simp; done
    refine GOps.r rfl rfl rfl rfl (grd_lss rfl rfl rfl) ?_
    refine GOps.r rfl rfl rfl rfl (grd_pick_f rfl rfl ?_ rfl) ?_
    · exact decide_eq_false (by omega)
    refine GOps.r rfl rfl rfl rfl (grd_move rfl rfl) ?_
    refine GOps.take rfl rfl ?_ ?_
    · simp; done
    refine GOps.r rfl rfl rfl rfl (grd_fieldAddr tab_is rfl rfl rfl rfl rfl) ?_
    refine GOps.take rfl rfl ?_ ?_
    · simp; done
    focus
      refine GOps.r rfl rfl rfl rfl (grd_load1 (b := ?_) (v := ?_) tab_is rfl rfl rfl rfl ?_ ?_) ?_
      rotate_left 2
      · exact Hp.at_push_eq
      · rfl
    refine GOps.take rfl rfl ?_ ?_
    · simp; done
    refine GOps.r rfl rfl rfl rfl (grd_fieldAddr tab_is rfl rfl rfl rfl rfl) ?_
    refine GOps.take rfl rfl ?_ ?_
    · simp; done
    focus
      refine GOps.r rfl rfl rfl rfl (grd_load1 (b := ?_) (v := ?_) tab_is rfl rfl rfl rfl ?_ ?_) ?_
      rotate_left 2
      · exact Hp.at_push_eq
      · rfl
    refine GOps.take rfl rfl ?_ ?_
    · simp; done
    refine GOps.r rfl rfl rfl rfl (grd_gtr rfl rfl rfl) ?_
    refine GOps.r rfl rfl rfl rfl (grd_pick_f rfl rfl ?_ rfl) ?_
    · exact decide_eq_false (by omega)
    refine GOps.r rfl rfl rfl rfl (grd_move rfl rfl) ?_
    refine GOps.take rfl rfl ?_ ?_
    · simp; done
    refine GOps.r rfl rfl rfl rfl (grd_move rfl rfl) ?_
    refine GOps.take rfl rfl ?_ ?_
    · simp; done
    refine GOps.r rfl rfl rfl rfl (grd_peql tab_is rfl rfl rfl rfl rfl) ?_
    refine GOps.r rfl rfl rfl rfl (grd_pick_f rfl rfl ?_ rfl) ?_
    · exact decide_eq_false (by omega)
    refine GOps.nil ?_
    refine GWP.cond_f rfl ?_ ?_
    · simp; done
    refine GWP.skip ?_
    refine GWP.seq ?_
    refine GWP.drawL [.pures [0, 3], .reads [1, 4], .write 2, .pures [6], .reset 5, .reset 7, .pures [8], .reset 9] false [List.length H] (by kernel_rfl) (by kernel_rfl) (by kernel_rfl) (by kernel_rfl) ?_ ?_
    · simp; done
    refine GRs.pures (by simp only [List.filterMap_cons, List.filterMap_nil, List.getElem?_toArray, List.getElem?_cons_succ, List.getElem?_cons_zero]; rfl) ?_
    refine GQ.r rfl rfl rfl rfl (grd_fieldAddr tab_is rfl rfl rfl rfl rfl) ?_ ?_
    · refine .inr ?_; simp; done
    refine GQ.r rfl rfl rfl rfl (grd_fieldAddr tab_is rfl rfl rfl rfl rfl) ?_ ?_
    · refine .inr ?_; simp; done
    refine GQ.nil ?_
    refine GRs.reads (by simp only [List.filterMap_cons, List.filterMap_nil, List.getElem?_toArray, List.getElem?_cons_succ, List.getElem?_cons_zero]; rfl) ?_
    focus
      refine GQ.r rfl rfl rfl rfl (grd_load1 (b := ?_) (v := ?_) tab_is rfl rfl rfl rfl ?_ ?_) ?_ ?_
      rotate_left 2
      · exact Hp.at_push_eq
      · rfl
      · refine .inr ?_; simp; done
    focus
      refine GQ.r rfl rfl rfl rfl (grd_load1 (b := ?_) (v := ?_) tab_is rfl rfl rfl rfl ?_ ?_) ?_ ?_
      rotate_left 2
      · exact Hp.at_push_eq
      · rfl
      · refine .inr ?_; simp; done
    refine GQ.nil ?_
    refine GRs.write1 true [List.length H] rfl rfl ?_ rfl rfl (gopf_call rfl Try.call86 rfl ?_ (g_clone0 _)) rfl ?_ ?_ ?_ ?_ ?_
    · with_reducible rfl
    · intro _ h; cases h; done
    · intro _ h; cases h; done
    focus
      focus
        refine List.forall_mem_cons.2 ⟨⟨⟨?_, ?_⟩, ?_⟩, ?_⟩
        rotate_left 1
        · exact Hp.at_push_eq
        · intro h; cases h; done
        · intro _ h; cases h; done
    · simp; done
    focus
      · simp; done
    refine GRs.pures (by simp only [List.filterMap_cons, List.filterMap_nil, List.getElem?_toArray, List.getElem?_cons_succ, List.getElem?_cons_zero]; rfl) ?_
    refine GQ.r rfl rfl rfl rfl (grd_fieldAddr tab_is rfl rfl rfl rfl rfl) ?_ ?_
    · refine .inr ?_; simp; done
    refine GQ.nil ?_
    refine GRs.reset1 true [] rfl rfl ?_ rfl rfl (gop_call rfl Try.call86 rfl ?_ (g_clone0 _)) ?_ ?_
    · with_reducible rfl
    · intro _ h; cases h; done
    · intro _ h; cases h; done
    focus
      refine GRs.resetS true [] rfl rfl ?_ rfl (gop_store1 (b := ?_) tab_is rfl rfl rfl rfl rfl rfl ?_ ?_ ?_ ?_) ?_ ?_
      · with_reducible rfl
      rotate_left 1
      · exact Hp.at_push_eq
      · rfl
      · decide
      · exact .inr (by simp)
      · intro _ h; cases h; done
    refine GRs.pures (by simp only [List.filterMap_cons, List.filterMap_nil, List.getElem?_toArray, List.getElem?_cons_succ, List.getElem?_cons_zero]; rfl) ?_
    refine GQ.r rfl rfl rfl rfl (grd_fieldAddr tab_is rfl rfl rfl rfl rfl) ?_ ?_
    · refine .inr ?_; simp; done
    refine GQ.nil ?_
    focus
      refine GRs.resetS true [] rfl rfl ?_ rfl (gop_store1 (b := ?_) tab_is rfl rfl rfl rfl rfl rfl ?_ ?_ ?_ ?_) ?_ ?_
      · with_reducible rfl
      rotate_left 1
      refine Hp.at_put_eq ?_
      · simp; done
      · rfl
      · decide
      · exact .inr (by simp)
      · intro _ h; cases h; done
    refine GRs.nil ?_
    refine GWP.seq ?_
    refine GWP.region ?_
    refine GOps.r rfl rfl rfl rfl (grd_move rfl rfl) ?_
    focus
      refine GOps.r rfl rfl rfl rfl (grd_loadNK (b := ?_) (cs := ?_) tab_is rfl rfl rfl rfl ?_ ?_ ?_) ?_
      rotate_left 2
      refine Hp.at_put_eq ?_
      · simp; done
      · decide
      · simp [Value.cells]; rfl
    focus
      refine GOps.r rfl rfl rfl rfl (grd_build (cs := ?_) tab_is rfl rfl rfl ?_ rfl ?_) ?_
      rotate_left 1
      · decide
      · simp [gfill, gsets, Value.cells]; rfl
    focus
      refine GOps.w1 rfl rfl rfl rfl (gop_box' (id := ?_) ?_ rfl rfl rfl) ?_
      rotate_left 1
      · simp; rfl
    refine GOps.r rfl rfl rfl rfl (grd_assign rfl rfl) ?_
    refine GOps.r rfl rfl rfl rfl (grd_assign rfl rfl) ?_
    refine GOps.nil ?_
    refine GWP.ret ?_
    refine ⟨_, .two (.one rfl) (.one rfl), ?_⟩
    refine ⟨?_, ?_⟩
    · exact ⟨_, rfl, Nat.le_succ _, Hp.at_push_id (by simp)⟩
    refine HExt.push ?_
    refine HExt.put ?_ ?_
    refine HExt.put ?_ ?_
    refine HExt.push ?_
    · exact HExt.refl _ _
    · exact .inr (by omega)
    · exact .inr (by omega)
set_option maxHeartbeats 4000000 in
set_option maxRecDepth 100000 in
set_option linter.unusedSimpArgs false in
theorem g_tlen0 (H : Hp) (g q : Nat) (h : H.at g = some (tpB q (.slice none 0 0) 0)) : GCalls Try.prog 30 [.pointer (some ⟨g, 0, none⟩)] [] H fun v H' => v = .int .i64 0 ∧ H' = H := by
  unfold tpB at h
  refine GCalls.body tab_is Try.func30 rfl Try.results30 Try.ntmps30 (by simp) ?_ ?_
  · first | (intro _ h; cases h; done) | (simp; done) | (simp; omega) | (intro i hi; simp at hi; rcases hi with rfl | rfl <;> omega) | (intro i hi; simp at hi; rcases hi with rfl | rfl | rfl <;> omega)
  focus
    refine GWP.seq ?_
    refine GWP.region ?_
    refine GOps.r rfl rfl rfl rfl (grd_assign rfl rfl) ?_
    refine GOps.nil ?_
    refine GWP.seq ?_
    refine GWP.seq ?_
    refine GWP.region ?_
    refine GOps.r rfl rfl rfl rfl (grd_move rfl rfl) ?_
    refine GOps.r rfl rfl rfl rfl (grd_peql tab_is rfl rfl rfl rfl rfl) ?_
    refine GOps.nil ?_
    refine GWP.cond_f rfl ?_ ?_
    · simp; done
    refine GWP.skip ?_
    refine GWP.seq ?_
    refine GWP.region ?_
    refine GOps.r rfl rfl rfl rfl (grd_move rfl rfl) ?_
    refine GOps.r rfl rfl rfl rfl (grd_nil rfl rfl) ?_
    refine GOps.r rfl rfl rfl rfl (grd_fieldAddr tab_is rfl rfl rfl rfl rfl) ?_
    focus
      refine GOps.r rfl rfl rfl rfl (grd_load1 (b := ?_) (v := ?_) tab_is rfl rfl rfl rfl ?_ ?_) ?_
      rotate_left 2
      · assumption
      · rfl
    refine GOps.r rfl rfl rfl rfl (grd_len tab_is rfl rfl rfl rfl rfl) ?_
    refine GOps.r rfl rfl rfl rfl (grd_assign rfl rfl) ?_
    refine GOps.nil ?_
    refine GWP.ret ?_
    refine ⟨_, .one rfl, ?_⟩
    refine ⟨?_, ?_⟩
    · rfl
    · rfl
set_option maxHeartbeats 4000000 in
set_option maxRecDepth 100000 in
set_option linter.unusedSimpArgs false in
theorem g_tlenS (H : Hp) (g q : Nat) (p : Option Addr) (n c : Nat) (a : Int) (h : H.at g = some (tpB q (.slice p n c) a)) : GCalls Try.prog 30 [.pointer (some ⟨g, 0, none⟩)] [] H fun v H' => v = .int .i64 (n : Int) ∧ H' = H := by
  unfold tpB at h
  refine GCalls.body tab_is Try.func30 rfl Try.results30 Try.ntmps30 (by simp) ?_ ?_
  · first | (intro _ h; cases h; done) | (simp; done) | (simp; omega) | (intro i hi; simp at hi; rcases hi with rfl | rfl <;> omega) | (intro i hi; simp at hi; rcases hi with rfl | rfl | rfl <;> omega)
  focus
    refine GWP.seq ?_
    refine GWP.region ?_
    refine GOps.r rfl rfl rfl rfl (grd_assign rfl rfl) ?_
    refine GOps.nil ?_
    refine GWP.seq ?_
    refine GWP.seq ?_
    refine GWP.region ?_
    refine GOps.r rfl rfl rfl rfl (grd_move rfl rfl) ?_
    refine GOps.r rfl rfl rfl rfl (grd_peql tab_is rfl rfl rfl rfl rfl) ?_
    refine GOps.nil ?_
    refine GWP.cond_f rfl ?_ ?_
    · simp; done
    refine GWP.skip ?_
    refine GWP.seq ?_
    refine GWP.region ?_
    refine GOps.r rfl rfl rfl rfl (grd_move rfl rfl) ?_
    refine GOps.r rfl rfl rfl rfl (grd_nil rfl rfl) ?_
    refine GOps.r rfl rfl rfl rfl (grd_fieldAddr tab_is rfl rfl rfl rfl rfl) ?_
    focus
      refine GOps.r rfl rfl rfl rfl (grd_load1 (b := ?_) (v := ?_) tab_is rfl rfl rfl rfl ?_ ?_) ?_
      rotate_left 2
      · assumption
      · rfl
    refine GOps.r rfl rfl rfl rfl (grd_len tab_is rfl rfl rfl rfl rfl) ?_
    refine GOps.r rfl rfl rfl rfl (grd_assign rfl rfl) ?_
    refine GOps.nil ?_
    refine GWP.ret ?_
    refine ⟨_, .one rfl, ?_⟩
    refine ⟨?_, ?_⟩
    · rfl
    · rfl
set_option maxHeartbeats 4000000 in
set_option maxRecDepth 100000 in
set_option linter.unusedSimpArgs false in
theorem g_used0 (H : Hp) (g q : Nat) (h : H.at g = some (tpB q (.slice none 0 0) 0)) : GCalls Try.prog 94 [.pointer (some ⟨g, 0, none⟩), .int .i64 0] [] H fun v H' => v = .int .i64 0 ∧ H' = H := by
  unfold tpB at h
  refine GCalls.body tab_is Try.func94 rfl Try.results94 Try.ntmps94 (by simp) ?_ ?_
  · first | (intro _ h; cases h; done) | (simp; done) | (simp; omega) | (intro i hi; simp at hi; rcases hi with rfl | rfl <;> omega) | (intro i hi; simp at hi; rcases hi with rfl | rfl | rfl <;> omega)
  focus
    refine GWP.seq ?_
    refine GWP.region ?_
    refine GOps.r rfl rfl rfl rfl (grd_assign rfl rfl) ?_
    refine GOps.nil ?_
    refine GWP.seq ?_
    refine GWP.region ?_
    refine GOps.r rfl rfl rfl rfl (grd_assign rfl rfl) ?_
    refine GOps.nil ?_
    refine GWP.seq ?_
    refine GWP.seq ?_
    refine GWP.region ?_
    refine GOps.r rfl rfl rfl rfl (grd_move rfl rfl) ?_
    refine GOps.r rfl rfl rfl rfl (grd_nil rfl rfl) ?_
    refine GOps.r rfl rfl rfl rfl (grd_fieldAddr tab_is rfl rfl rfl rfl rfl) ?_
    focus
      refine GOps.r rfl rfl rfl rfl (grd_load1 (b := ?_) (v := ?_) tab_is rfl rfl rfl rfl ?_ ?_) ?_
      rotate_left 2
      · assumption
      · rfl
    refine GOps.r rfl rfl rfl rfl (grd_move rfl rfl) ?_
    refine GOps.r rfl rfl rfl rfl (grd_slice0 tab_is rfl rfl rfl rfl ?_ ?_ ?_ ?_) ?_
    · exact rfl
    · exact ⟨_, rfl⟩
    · exact rfl
    · decide
    refine GOps.r rfl rfl rfl rfl (grd_len tab_is rfl rfl rfl rfl rfl) ?_
    refine GOps.r rfl rfl rfl rfl (grd_move rfl rfl) ?_
    refine GOps.nil ?_
    refine GWP.block ?_
    refine GWP.loopN 2 ?_
    refine GRounds.step ?_
    refine GWP.seq ?_
    refine GWP.region ?_
    refine GOps.r rfl rfl rfl rfl (grd_lss rfl rfl rfl) ?_
    refine GOps.nil ?_
    refine GWP.seq ?_
    refine GWP.cond_f rfl ?_ ?_
    · exact decide_eq_false (by omega)
    refine GWP.exit ?_
    refine GWP.seq ?_
    refine GWP.region ?_
    refine GOps.r rfl rfl rfl rfl (grd_move rfl rfl) ?_
    refine GOps.r rfl rfl rfl rfl (grd_assign rfl rfl) ?_
    refine GOps.nil ?_
    refine GWP.ret ?_
    refine ⟨_, .one rfl, ?_⟩
    refine ⟨?_, ?_⟩
    · rfl
    · rfl
/-- The one piece's row. -/
def pcB (p : Option Addr) (n c : Nat) : Blk := ⟨162, 2, [.slice p n c, .bool false], true⟩
set_option maxHeartbeats 4000000 in
set_option maxRecDepth 100000 in
set_option linter.unusedSimpArgs false in
theorem g_put0 (H : Hp) (g q : Nat) (c0 : Int) (h : H.at g = some (tpB q (.slice none 0 0) 0)) (hq : H.at q = some (pwB c0)) (hc0 : 0 ≤ c0 ∧ c0 < 1000000) (p : Option Addr) (n c : Nat) (hn : n ≤ 200) :
    GCalls Try.prog 95 [.pointer (some ⟨g, 0, none⟩), .agg #[.slice p n c, .bool false]] [g, q] H fun v H' => v = .int .i64 0 ∧ (∃ j cj, H'.at g = some (tpB q (.slice (some ⟨j, 0, none⟩) 1 cj) 1) ∧ H'.at j = some (pcB p n c) ∧ H.length ≤ j ∧ H'.at q = some (pwB (c0 + 1))) ∧ HExt [g, q] H H' := by
  have hgq : g ≠ q := by
    rintro rfl
    rw [h] at hq
    cases hq
  have hO := g_pon0 H q c0 hq
  have hU := fun H h => g_used0 H g q h
  have hW := fun H h n hn => g_pwrite0 H q c0 h hc0 n hn
  have hi := Hp.at_lt h
  have hqi := Hp.at_lt hq
  unfold tpB at h ⊢
  unfold pwB at hq hW
  unfold pcB
  refine GCalls.body tab_is Try.func95 rfl Try.results95 Try.ntmps95 (by simp) ?_ ?_
  · first | (intro _ h; cases h; done) | (simp; done) | (simp; omega) | (intro i hi; simp at hi; rcases hi with rfl | rfl <;> omega) | (intro i hi; simp at hi; rcases hi with rfl | rfl | rfl <;> omega)
  focus
    refine GWP.seq ?_
    refine GWP.region ?_
    focus
      refine GOps.w1 rfl rfl rfl rfl (gop_box' (id := ?_) ?_ rfl rfl rfl) ?_
      rotate_left 1
      · rfl
    refine GOps.r rfl rfl rfl rfl (grd_assign rfl rfl) ?_
    refine GOps.nil ?_
    refine GWP.seq ?_
    refine GWP.block ?_
    refine GWP.seq ?_
    refine GWP.region ?_
    refine GOps.r rfl rfl rfl rfl (grd_move rfl rfl) ?_
    refine GOps.r rfl rfl rfl rfl (grd_nil rfl rfl) ?_
    refine GOps.r rfl rfl rfl rfl (grd_fieldAddr tab_is rfl rfl rfl rfl rfl) ?_
    focus
      refine GOps.r rfl rfl rfl rfl (grd_load1 (b := ?_) (v := ?_) tab_is rfl rfl rfl rfl ?_ ?_) ?_
      rotate_left 2
      refine (Hp.at_push_lt ?_).trans ?_
      · omega
      · assumption
      · rfl
    refine GOps.w1 rfl rfl rfl rfl (gop_call rfl Try.call33 rfl ?_ (g_pon0 _ q c0 ?_)) ?_
    · intro _ h; cases h; done
    refine (Hp.at_push_lt ?_).trans ?_
    · omega
    · assumption
    refine GOps.r rfl rfl rfl rfl (grd_not rfl rfl) ?_
    refine GOps.r rfl rfl rfl rfl (grd_assign rfl rfl) ?_
    refine GOps.nil ?_
    refine GWP.cond_f rfl ?_ ?_
    · simp; done
    refine GWP.seq ?_
    refine GWP.draw [.reads [0, 1, 7, 11, 2, 8, 12, 3, 9, 13, 4, 14, 15], .write 5, .reads [6, 10, 16, 17]] false [List.length H, g] (by kernel_rfl) (by kernel_rfl) (by kernel_rfl) (by kernel_rfl) ?_ ?_
    · simp; omega
    refine GPcs.reads (by simp only [List.filterMap_cons, List.filterMap_nil, List.getElem?_toArray, List.getElem?_cons_succ, List.getElem?_cons_zero]; rfl) ?_
    refine GQ.r rfl rfl rfl rfl (grd_move rfl rfl) ?_ ?_
    · refine .inr ?_; simp; done
    refine GQ.r rfl rfl rfl rfl (grd_move rfl rfl) ?_ ?_
    · refine .inr ?_; simp; done
    refine GQ.r rfl rfl rfl rfl (grd_fieldAddr tab_is rfl rfl rfl rfl rfl) ?_ ?_
    · refine .inr ?_; simp; done
    refine GQ.r rfl rfl rfl rfl (grd_move rfl rfl) ?_ ?_
    · refine .inr ?_; simp; done
    refine GQ.r rfl rfl rfl rfl (grd_nil rfl rfl) ?_ ?_
    · refine .inr ?_; simp; done
    focus
      refine GQ.r rfl rfl rfl rfl (grd_load1 (b := ?_) (v := ?_) tab_is rfl rfl rfl rfl ?_ ?_) ?_ ?_
      rotate_left 2
      · exact Hp.at_push_eq
      · rfl
      · refine .inr ?_; simp; done
    refine GQ.r rfl rfl rfl rfl (grd_nil rfl rfl) ?_ ?_
    · refine .inr ?_; simp; done
    refine GQ.r rfl rfl rfl rfl (grd_fieldAddr tab_is rfl rfl rfl rfl rfl) ?_ ?_
    · refine .inr ?_; simp; done
    refine GQ.r rfl rfl rfl rfl (grd_len tab_is rfl rfl rfl rfl rfl) ?_ ?_
    · refine .inr ?_; simp; done
    refine GQ.r rfl rfl rfl rfl (grd_fieldAddr tab_is rfl rfl rfl rfl rfl) ?_ ?_
    · refine .inr ?_; simp; done
    focus
      refine GQ.r rfl rfl rfl rfl (grd_load1 (b := ?_) (v := ?_) tab_is rfl rfl rfl rfl ?_ ?_) ?_ ?_
      rotate_left 2
      refine (Hp.at_push_lt ?_).trans ?_
      · omega
      · assumption
      · rfl
      · refine .inr ?_; simp; done
    refine GQ.r rfl rfl rfl rfl (grd_fieldAddr tab_is rfl rfl rfl rfl rfl) ?_ ?_
    · refine .inr ?_; simp; done
    focus
      refine GQ.r rfl rfl rfl rfl (grd_load1 (b := ?_) (v := ?_) tab_is rfl rfl rfl rfl ?_ ?_) ?_ ?_
      rotate_left 2
      refine (Hp.at_push_lt ?_).trans ?_
      · omega
      · assumption
      · rfl
      · refine .inr ?_; simp; done
    refine GQ.nil ?_
    refine GPcs.write1 true [List.length H, g] rfl rfl ?_ rfl rfl (gopf_call rfl Try.call94 rfl ?_ (hU _ ?_)) rfl ?_ ?_ ?_ ?_ ?_
    · with_reducible rfl
    · intro _ h; cases h; done
    refine (Hp.at_push_lt ?_).trans ?_
    · omega
    · assumption
    · intro _ h; cases h; done
    focus
      focus
        refine List.forall_mem_cons.2 ⟨⟨⟨?_, ?_⟩, ?_⟩, ?_⟩
        rotate_left 1
        · exact Hp.at_push_eq
        · intro h; cases h; done
        focus
          refine List.forall_mem_cons.2 ⟨⟨⟨?_, ?_⟩, ?_⟩, ?_⟩
          rotate_left 1
          refine (Hp.at_push_lt ?_).trans ?_
          · omega
          · assumption
          · intro h; cases h; done
          · intro _ h; cases h; done
    · simp; done
    focus
      · simp; omega
    refine GPcs.reads (by simp only [List.filterMap_cons, List.filterMap_nil, List.getElem?_toArray, List.getElem?_cons_succ, List.getElem?_cons_zero]; rfl) ?_
    refine GQ.r rfl rfl rfl rfl (grd_add64 rfl rfl rfl ?_) ?_ ?_
    · omega
    · exact .inl rfl
    refine GQ.r rfl rfl rfl rfl (grd_add64 rfl rfl rfl ?_) ?_ ?_
    · omega
    · exact .inl rfl
    refine GQ.r rfl rfl rfl rfl (grd_gtr rfl rfl rfl) ?_ ?_
    · exact .inl rfl
    refine GQ.r rfl rfl rfl rfl (grd_assign rfl rfl) ?_ ?_
    · exact .inl rfl
    refine GQ.nil ?_
    refine GPcs.nil ?_
    refine GWP.cond_f rfl ?_ ?_
    · exact decide_eq_false (by omega)
    refine GWP.skip ?_
    refine GWP.seq ?_
    refine GWP.draw [.reads [0, 4, 1, 5, 2, 6, 3, 7], .write 8, .reads [9, 10, 11, 12, 13]] false [List.length H, g] (by kernel_rfl) (by kernel_rfl) (by kernel_rfl) (by kernel_rfl) ?_ ?_
    · simp; omega
    refine GPcs.reads (by simp only [List.filterMap_cons, List.filterMap_nil, List.getElem?_toArray, List.getElem?_cons_succ, List.getElem?_cons_zero]; rfl) ?_
    refine GQ.r rfl rfl rfl rfl (grd_move rfl rfl) ?_ ?_
    · refine .inr ?_; simp; done
    refine GQ.r rfl rfl rfl rfl (grd_fieldAddr tab_is rfl rfl rfl rfl rfl) ?_ ?_
    · refine .inr ?_; simp; done
    refine GQ.r rfl rfl rfl rfl (grd_nil rfl rfl) ?_ ?_
    · refine .inr ?_; simp; done
    focus
      refine GQ.r rfl rfl rfl rfl (grd_load1 (b := ?_) (v := ?_) tab_is rfl rfl rfl rfl ?_ ?_) ?_ ?_
      rotate_left 2
      · exact Hp.at_push_eq
      · rfl
      · refine .inr ?_; simp; done
    refine GQ.r rfl rfl rfl rfl (grd_fieldAddr tab_is rfl rfl rfl rfl rfl) ?_ ?_
    · refine .inr ?_; simp; done
    refine GQ.r rfl rfl rfl rfl (grd_len tab_is rfl rfl rfl rfl rfl) ?_ ?_
    · refine .inr ?_; simp; done
    focus
      refine GQ.r rfl rfl rfl rfl (grd_load1 (b := ?_) (v := ?_) tab_is rfl rfl rfl rfl ?_ ?_) ?_ ?_
      rotate_left 2
      refine (Hp.at_push_lt ?_).trans ?_
      · omega
      · assumption
      · rfl
      · refine .inr ?_; simp; done
    refine GQ.r rfl rfl rfl rfl (grd_add64 rfl rfl rfl ?_) ?_ ?_
    · omega
    · refine .inr ?_; simp; done
    refine GQ.nil ?_
    refine GPcs.write1 true [List.length H, g] rfl rfl ?_ rfl rfl (gopf_call rfl Try.call135 rfl ?_ (hW _ ?_ _ ?_)) rfl ?_ ?_ ?_ ?_ ?_
    · with_reducible rfl
    · simp [Ctx.may]; done
    refine (Hp.at_push_lt ?_).trans ?_
    · omega
    · assumption
    · omega
    focus
      refine List.forall_mem_cons.2 ⟨⟨?_, ?_, ?_⟩, ?_⟩
      rotate_left 1
      refine (Hp.at_push_lt ?_).trans ?_
      · omega
      · assumption
      · rfl
      · intro _ h; cases h; done
    focus
      focus
        refine List.forall_mem_cons.2 ⟨⟨⟨?_, ?_⟩, ?_⟩, ?_⟩
        rotate_left 1
        · exact Hp.at_push_eq
        · simp; omega
        focus
          refine List.forall_mem_cons.2 ⟨⟨⟨?_, ?_⟩, ?_⟩, ?_⟩
          rotate_left 1
          refine (Hp.at_push_lt ?_).trans ?_
          · omega
          · assumption
          · simp; omega
          · intro _ h; cases h; done
    · simp; done
    focus
      · simp; omega
    refine GPcs.reads (by simp only [List.filterMap_cons, List.filterMap_nil, List.getElem?_toArray, List.getElem?_cons_succ, List.getElem?_cons_zero]; rfl) ?_
    refine GQ.r rfl rfl rfl rfl (grd_move rfl rfl) ?_ ?_
    · exact .inl rfl
    focus
      refine GQ.r rfl rfl rfl rfl (grd_extract (v := ?_) rfl rfl ?_) ?_ ?_
      rotate_left 1
      · simp only [List.getElem?_toArray, List.getElem?_cons_zero, List.getElem?_cons_succ]; rfl
      · exact .inl rfl
    focus
      refine GQ.r rfl rfl rfl rfl (grd_extract (v := ?_) rfl rfl ?_) ?_ ?_
      rotate_left 1
      · simp only [List.getElem?_toArray, List.getElem?_cons_zero, List.getElem?_cons_succ]; rfl
      · exact .inl rfl
    refine GQ.r rfl rfl rfl rfl (grd_assign rfl rfl) ?_ ?_
    · exact .inl rfl
    refine GQ.r rfl rfl rfl rfl (grd_assign rfl rfl) ?_ ?_
    · exact .inl rfl
    refine GQ.nil ?_
    refine GPcs.nil ?_
    refine GWP.seq ?_
    refine GWP.drawT 16 (by kernel_rfl) (by kernel_rfl) (by simp only [List.take_succ_cons, List.take_zero]; rfl) (by simp only [List.drop_succ_cons, List.drop_zero]; rfl) ?_
    refine GQ.r rfl rfl rfl rfl (grd_move rfl rfl) ?_ ?_
    · exact .inl rfl
    refine GQ.r rfl rfl rfl rfl (grd_move rfl rfl) ?_ ?_
    · exact .inl rfl
    refine GQ.r rfl rfl rfl rfl (grd_nil rfl rfl) ?_ ?_
    · exact .inl rfl
    refine GQ.r rfl rfl rfl rfl (grd_fieldAddr tab_is rfl rfl rfl rfl rfl) ?_ ?_
    · exact .inl rfl
    focus
      refine GQ.r rfl rfl rfl rfl (grd_load1 (b := ?_) (v := ?_) tab_is rfl rfl rfl rfl ?_ ?_) ?_ ?_
      rotate_left 2
      refine (Hp.at_put_ne ?_).trans ?_
      · exact Ne.symm (by assumption)
      refine (Hp.at_push_lt ?_).trans ?_
      · omega
      · assumption
      · rfl
      · exact .inl rfl
    refine GQ.r rfl rfl rfl rfl (grd_move rfl rfl) ?_ ?_
    · exact .inl rfl
    refine GQ.r rfl rfl rfl rfl (grd_nil rfl rfl) ?_ ?_
    · exact .inl rfl
    refine GQ.r rfl rfl rfl rfl (grd_fieldAddr tab_is rfl rfl rfl rfl rfl) ?_ ?_
    · exact .inl rfl
    focus
      refine GQ.r rfl rfl rfl rfl (grd_load1 (b := ?_) (v := ?_) tab_is rfl rfl rfl rfl ?_ ?_) ?_ ?_
      rotate_left 2
      refine (Hp.at_put_ne ?_).trans ?_
      · exact Ne.symm (by assumption)
      refine (Hp.at_push_lt ?_).trans ?_
      · omega
      · assumption
      · rfl
      · exact .inl rfl
    refine GQ.r rfl rfl rfl rfl (grd_move rfl rfl) ?_ ?_
    · exact .inl rfl
    refine GQ.r rfl rfl rfl rfl (grd_nil rfl rfl) ?_ ?_
    · exact .inl rfl
    refine GQ.r rfl rfl rfl rfl (grd_fieldAddr tab_is rfl rfl rfl rfl rfl) ?_ ?_
    · exact .inl rfl
    focus
      refine GQ.r rfl rfl rfl rfl (grd_load1 (b := ?_) (v := ?_) tab_is rfl rfl rfl rfl ?_ ?_) ?_ ?_
      rotate_left 2
      refine (Hp.at_put_ne ?_).trans ?_
      · exact Ne.symm (by assumption)
      refine (Hp.at_push_lt ?_).trans ?_
      · omega
      · assumption
      · rfl
      · exact .inl rfl
    refine GQ.r rfl rfl rfl rfl (grd_slice0 tab_is rfl rfl rfl rfl ?_ ?_ ?_ ?_) ?_ ?_
    · exact rfl
    · exact ⟨_, rfl⟩
    · exact ⟨_, rfl⟩
    · decide
    · exact .inl rfl
    refine GQ.r rfl rfl rfl rfl (grd_nil rfl rfl) ?_ ?_
    · exact .inl rfl
    refine GQ.r rfl rfl rfl rfl (grd_fieldAddr tab_is rfl rfl rfl rfl rfl) ?_ ?_
    · exact .inl rfl
    refine GQ.nil ?_
    focus
      refine GOps.s rfl rfl rfl (gop_store1 (b := ?_) tab_is rfl rfl rfl rfl rfl rfl ?_ ?_ ?_ ?_) ?_
      rotate_left 1
      refine (Hp.at_put_ne ?_).trans ?_
      · exact Ne.symm (by assumption)
      refine (Hp.at_push_lt ?_).trans ?_
      · omega
      · assumption
      · rfl
      · exact Nat.le_of_ble_eq_true rfl
      · exact .inl (by simp)
    refine GOps.nil ?_
    refine GWP.seq ?_
    refine GWP.block ?_
    refine GWP.seq ?_
    refine GWP.drawT 12 (by kernel_rfl) (by kernel_rfl) (by simp only [List.take_succ_cons, List.take_zero]; rfl) (by simp only [List.drop_succ_cons, List.drop_zero]; rfl) ?_
    refine GQ.r rfl rfl rfl rfl (grd_move rfl rfl) ?_ ?_
    · exact .inl rfl
    refine GQ.r rfl rfl rfl rfl (grd_eql rfl rfl rfl) ?_ ?_
    · exact .inl rfl
    refine GQ.r rfl rfl rfl rfl (grd_move rfl rfl) ?_ ?_
    · exact .inl rfl
    refine GQ.take rfl rfl ?_ ?_
    · simp; done
    refine GQ.r rfl rfl rfl rfl (grd_move rfl rfl) ?_ ?_
    · exact .inl rfl
    refine GQ.take rfl rfl ?_ ?_
    · simp; done
    refine GQ.r rfl rfl rfl rfl (grd_nil rfl rfl) ?_ ?_
    · exact .inl rfl
    refine GQ.take rfl rfl ?_ ?_
    · simp; done
    refine GQ.r rfl rfl rfl rfl (grd_fieldAddr tab_is rfl rfl rfl rfl rfl) ?_ ?_
    · exact .inl rfl
    refine GQ.take rfl rfl ?_ ?_
    · simp; done
    refine GQ.r rfl rfl rfl rfl (grd_fieldAddr tab_is rfl rfl rfl rfl rfl) ?_ ?_
    · exact .inl rfl
    refine GQ.take rfl rfl ?_ ?_
    · simp; done
    focus
      refine GQ.r rfl rfl rfl rfl (grd_load1 (b := ?_) (v := ?_) tab_is rfl rfl rfl rfl ?_ ?_) ?_ ?_
      rotate_left 2
      refine Hp.at_put_eq ?_
      · simp; omega
      · rfl
      · exact .inl rfl
    refine GQ.take rfl rfl ?_ ?_
    · simp; done
    refine GQ.r rfl rfl rfl rfl (grd_move rfl rfl) ?_ ?_
    · exact .inl rfl
    refine GQ.take rfl rfl ?_ ?_
    · simp; done
    refine GQ.r rfl rfl rfl rfl (grd_nil rfl rfl) ?_ ?_
    · exact .inl rfl
    refine GQ.take rfl rfl ?_ ?_
    · simp; done
    refine GQ.r rfl rfl rfl rfl (grd_fieldAddr tab_is rfl rfl rfl rfl rfl) ?_ ?_
    · exact .inl rfl
    refine GQ.take rfl rfl ?_ ?_
    · simp; done
    focus
      refine GQ.r rfl rfl rfl rfl (grd_load1 (b := ?_) (v := ?_) tab_is rfl rfl rfl rfl ?_ ?_) ?_ ?_
      rotate_left 2
      refine Hp.at_put_eq ?_
      · simp; omega
      · rfl
      · exact .inl rfl
    refine GQ.nil ?_
    refine GOps.take rfl rfl ?_ ?_
    · simp; done
    refine GOps.w1 rfl rfl rfl rfl (gop_call rfl Try.call136 rfl ?_ (g_contains0 _ _)) ?_
    · intro _ h; cases h; done
    refine GOps.r rfl rfl rfl rfl (grd_pick_t rfl rfl ?_ rfl) ?_
    · exact decide_eq_true (by omega)
    refine GOps.r rfl rfl rfl rfl (grd_assign rfl rfl) ?_
    refine GOps.nil ?_
    refine GWP.cond_f rfl ?_ ?_
    · with_reducible rfl
    refine GWP.seq ?_
    refine GWP.region ?_
    refine GOps.r rfl rfl rfl rfl (grd_move rfl rfl) ?_
    refine GOps.r rfl rfl rfl rfl (grd_eql rfl rfl rfl) ?_
    refine GOps.r rfl rfl rfl rfl (grd_assign rfl rfl) ?_
    refine GOps.nil ?_
    refine GWP.cond_t rfl ?_ ?_
    · exact decide_eq_true (by omega)
    refine GWP.seq ?_
    refine GWP.drawL [.pures [0, 1], .reads [5], .pures [2, 3], .reads [4], .write 6, .reset 7, .pures [8, 9], .reset 10] false [List.length H, g] (by kernel_rfl) (by kernel_rfl) (by kernel_rfl) (by kernel_rfl) ?_ ?_
    · simp; omega
    refine GRs.pures (by simp only [List.filterMap_cons, List.filterMap_nil, List.getElem?_toArray, List.getElem?_cons_succ, List.getElem?_cons_zero]; rfl) ?_
    refine GQ.r rfl rfl rfl rfl (grd_move rfl rfl) ?_ ?_
    · refine .inr ?_; simp; done
    refine GQ.r rfl rfl rfl rfl (grd_move rfl rfl) ?_ ?_
    · refine .inr ?_; simp; done
    refine GQ.nil ?_
    refine GRs.reads (by simp only [List.filterMap_cons, List.filterMap_nil, List.getElem?_toArray, List.getElem?_cons_succ, List.getElem?_cons_zero]; rfl) ?_
    focus
      refine GQ.r rfl rfl rfl rfl (grd_loadNK (b := ?_) (cs := ?_) tab_is rfl rfl rfl rfl ?_ ?_ ?_) ?_ ?_
      rotate_left 2
      refine (Hp.at_put_ne ?_).trans ?_
      · omega
      refine (Hp.at_put_ne ?_).trans ?_
      · omega
      · exact Hp.at_push_eq
      · exact Nat.le_of_ble_eq_true rfl
      · simp [Value.cells]; rfl
      · refine .inr ?_; simp; done
    refine GQ.nil ?_
    refine GRs.pures (by simp only [List.filterMap_cons, List.filterMap_nil, List.getElem?_toArray, List.getElem?_cons_succ, List.getElem?_cons_zero]; rfl) ?_
    refine GQ.r rfl rfl rfl rfl (grd_nil rfl rfl) ?_ ?_
    · refine .inr ?_; simp; done
    refine GQ.r rfl rfl rfl rfl (grd_fieldAddr tab_is rfl rfl rfl rfl rfl) ?_ ?_
    · refine .inr ?_; simp; done
    refine GQ.nil ?_
    refine GRs.reads (by simp only [List.filterMap_cons, List.filterMap_nil, List.getElem?_toArray, List.getElem?_cons_succ, List.getElem?_cons_zero]; rfl) ?_
    focus
      refine GQ.r rfl rfl rfl rfl (grd_load1 (b := ?_) (v := ?_) tab_is rfl rfl rfl rfl ?_ ?_) ?_ ?_
      rotate_left 2
      refine Hp.at_put_eq ?_
      · simp; omega
      · rfl
      · refine .inr ?_; simp; done
    refine GQ.nil ?_
    focus
      refine GRs.write1 true [List.length H, g] rfl rfl ?_ rfl rfl (GOpF.of [] ?_ ?_ (gop_lit (id := ?_) (cs := ?_) ?_ tab_is rfl rfl rfl ?_ ?_ rfl ?_ ?_)) rfl ?_ ?_ ?_ ?_ ?_
      · with_reducible rfl
      · intro _ h; cases h; done
      · intro _ h; cases h; done
      rotate_left 2
      · simp; rfl
      · decide
      · decide
      · simp [gfill, gsets, Value.cells]; rfl
      · rfl
      · intro _ h; cases h; done
      focus
        focus
          refine List.forall_mem_cons.2 ⟨⟨⟨?_, ?_⟩, ?_⟩, ?_⟩
          rotate_left 1
          refine (Hp.at_put_ne ?_).trans ?_
          · omega
          refine (Hp.at_put_ne ?_).trans ?_
          · omega
          · exact Hp.at_push_eq
          · intro h; cases h; done
          focus
            refine List.forall_mem_cons.2 ⟨⟨⟨?_, ?_⟩, ?_⟩, ?_⟩
            rotate_left 1
            refine Hp.at_put_eq ?_
            · simp; omega
            · intro h; cases h; done
            · intro _ h; cases h; done
      · simp; done
      focus
        · simp; omega
    focus
      refine GRs.reset1 true [] rfl rfl ?_ rfl rfl (gop_nil (id := ?_) ?_ ?_ tab_is rfl rfl rfl (by decide) rfl (GSrc.slice (b := ?_) rfl rfl rfl ?_ ?_) ?_ ?_ ?_ ?_ ?_) ?_ ?_
      · with_reducible rfl
      rotate_left 2
      · simp; rfl
      rotate_left 1
      refine Hp.at_push_id ?_
      · simp; done
      · exact Nat.le_of_ble_eq_true rfl
      · rfl
      · simp; rfl
      · omega
      · decide
      · decide
      · intro _ h; cases h; done
    refine GRs.pures (by simp only [List.filterMap_cons, List.filterMap_nil, List.getElem?_toArray, List.getElem?_cons_succ, List.getElem?_cons_zero]; rfl) ?_
    refine GQ.r rfl rfl rfl rfl (grd_nil rfl rfl) ?_ ?_
    · refine .inr ?_; simp; done
    refine GQ.r rfl rfl rfl rfl (grd_fieldAddr tab_is rfl rfl rfl rfl rfl) ?_ ?_
    · refine .inr ?_; simp; done
    refine GQ.nil ?_
    focus
      refine GRs.resetS true [] rfl rfl ?_ rfl (gop_store1 (b := ?_) tab_is rfl rfl rfl rfl rfl rfl ?_ ?_ ?_ ?_) ?_ ?_
      · with_reducible rfl
      rotate_left 1
      refine (Hp.at_push_lt ?_).trans ?_
      · simp; omega
      refine (Hp.at_push_lt ?_).trans ?_
      · simp; omega
      refine Hp.at_put_eq ?_
      · simp; omega
      · rfl
      · exact Nat.le_of_ble_eq_true rfl
      · exact .inl (by simp)
      · intro _ h; cases h; done
    refine GRs.nil ?_
    refine GWP.region ?_
    refine GOps.r rfl rfl rfl rfl (grd_move rfl rfl) ?_
    refine GOps.r rfl rfl rfl rfl (grd_nil rfl rfl) ?_
    refine GOps.r rfl rfl rfl rfl (grd_fieldAddr tab_is rfl rfl rfl rfl rfl) ?_
    focus
      refine GOps.r rfl rfl rfl rfl (grd_load1 (b := ?_) (v := ?_) tab_is rfl rfl rfl rfl ?_ ?_) ?_
      rotate_left 2
      refine Hp.at_put_eq ?_
      · simp; omega
      · rfl
    refine GOps.r rfl rfl rfl rfl (grd_add64 rfl rfl rfl ?_) ?_
    · omega
    refine GOps.r rfl rfl rfl rfl (grd_nil rfl rfl) ?_
    refine GOps.r rfl rfl rfl rfl (grd_fieldAddr tab_is rfl rfl rfl rfl rfl) ?_
    focus
      refine GOps.s rfl rfl rfl (gop_store1 (b := ?_) tab_is rfl rfl rfl rfl rfl rfl ?_ ?_ ?_ ?_) ?_
      rotate_left 1
      refine Hp.at_put_eq ?_
      · simp; omega
      · rfl
      · exact Nat.le_of_ble_eq_true rfl
      · exact .inl (by simp)
    refine GOps.nil ?_
    refine GWP.seq ?_
    refine GWP.region ?_
    refine GOps.r rfl rfl rfl rfl (grd_move rfl rfl) ?_
    refine GOps.r rfl rfl rfl rfl (grd_assign rfl rfl) ?_
    refine GOps.nil ?_
    refine GWP.ret ?_
    refine ⟨_, .one rfl, ?_⟩
    refine ⟨?_, ?_⟩
    · rfl
    refine ⟨?_, ?_⟩
    rotate_left 1
    refine HExt.put ?_ ?_
    refine HExt.put ?_ ?_
    refine HExt.push ?_
    refine HExt.push ?_
    refine HExt.put ?_ ?_
    refine HExt.put ?_ ?_
    refine HExt.push ?_
    · exact HExt.refl _ _
    · exact .inl (by simp)
    · exact .inl (by simp)
    · exact .inl (by simp)
    · exact .inl (by simp)
  refine ⟨H.length + 2, capU, ?_, ?_, ?_, ?_⟩
  · ((repeat (first | (refine (killO_ne ?_).trans ?_; (· (intro hq; first | (have := lt_io _ hq; first | omega | (simp; omega)) | (have := lt_ig _ hq; first | omega | (simp; omega))))) | (refine (Hp.at_put_ne ?_).trans ?_; (· (first | assumption | (exact Ne.symm (by assumption)) | omega | (simp; done) | (simp; omega)))) | (refine (Hp.at_push_lt ?_).trans ?_; (· (first | assumption | omega | (simp; done) | (simp; omega)))) | (refine (Hp.at_kill_ne ?_).trans ?_; (· (first | assumption | (exact Ne.symm (by assumption)) | omega | (simp; done) | (simp; omega)))) | (refine (HExt.eq (by assumption) _ ?_ ?_).trans ?_; (· (first | assumption | omega | (simp; done) | (simp; omega))); (· (first | (intro h; cases h; done) | (simp; done) | (simp; omega)))))); (first | assumption | exact Hp.at_push_eq | (refine Hp.at_push_id ?_; (· (first | rfl | assumption | omega | (simp; done) | (simp; omega)))) | (refine Hp.at_put_eq ?_; (· (first | assumption | omega | (simp; done) | (simp; omega)))) | (refine Hp.at_put_id ?_ ?_; (· (first | rfl | assumption | omega | (simp; done) | (simp; omega))); (· (first | assumption | omega | (simp; done) | (simp; omega))))))
  · ((repeat (first | (refine (killO_ne ?_).trans ?_; (· (intro hq; first | (have := lt_io _ hq; first | omega | (simp; omega)) | (have := lt_ig _ hq; first | omega | (simp; omega))))) | (refine (Hp.at_put_ne ?_).trans ?_; (· (first | assumption | (exact Ne.symm (by assumption)) | omega | (simp; done) | (simp; omega)))) | (refine (Hp.at_push_lt ?_).trans ?_; (· (first | assumption | omega | (simp; done) | (simp; omega)))) | (refine (Hp.at_kill_ne ?_).trans ?_; (· (first | assumption | (exact Ne.symm (by assumption)) | omega | (simp; done) | (simp; omega)))) | (refine (HExt.eq (by assumption) _ ?_ ?_).trans ?_; (· (first | assumption | omega | (simp; done) | (simp; omega))); (· (first | (intro h; cases h; done) | (simp; done) | (simp; omega)))))); (first | assumption | exact Hp.at_push_eq | (refine Hp.at_push_id ?_; (· (first | rfl | assumption | omega | (simp; done) | (simp; omega)))) | (refine Hp.at_put_eq ?_; (· (first | assumption | omega | (simp; done) | (simp; omega)))) | (refine Hp.at_put_id ?_ ?_; (· (first | rfl | assumption | omega | (simp; done) | (simp; omega))); (· (first | assumption | omega | (simp; done) | (simp; omega))))))
  · omega
  · ((repeat (first | (refine (killO_ne ?_).trans ?_; (· (intro hq; first | (have := lt_io _ hq; first | omega | (simp; omega)) | (have := lt_ig _ hq; first | omega | (simp; omega))))) | (refine (Hp.at_put_ne ?_).trans ?_; (· (first | assumption | (exact Ne.symm (by assumption)) | omega | (simp; done) | (simp; omega)))) | (refine (Hp.at_push_lt ?_).trans ?_; (· (first | assumption | omega | (simp; done) | (simp; omega)))) | (refine (Hp.at_kill_ne ?_).trans ?_; (· (first | assumption | (exact Ne.symm (by assumption)) | omega | (simp; done) | (simp; omega)))) | (refine (HExt.eq (by assumption) _ ?_ ?_).trans ?_; (· (first | assumption | omega | (simp; done) | (simp; omega))); (· (first | (intro h; cases h; done) | (simp; done) | (simp; omega)))))); (first | assumption | exact Hp.at_push_eq | (refine Hp.at_push_id ?_; (· (first | rfl | assumption | omega | (simp; done) | (simp; omega)))) | (refine Hp.at_put_eq ?_; (· (first | assumption | omega | (simp; done) | (simp; omega)))) | (refine Hp.at_put_id ?_ ?_; (· (first | rfl | assumption | omega | (simp; done) | (simp; omega))); (· (first | assumption | omega | (simp; done) | (simp; omega))))))
/-- Bytes stay where other blocks turn. -/
theorem bs_extF {F : List Nat} {H H' : Hp} {v : Value} {L : List UInt8} (h : BS H v L) (x : HExt F H H') (hF : ∀ j ∈ F, ∃ b, H.at j = some b ∧ allU8 b.cs = false) : BS H' v L := by
  cases h with
  | none => exact .none
  | some hb hs hl ho hu =>
    refine .some ((x.eq _ (Hp.at_lt hb) fun hm => ?_).trans hb) hs hl ho hu
    obtain ⟨b, h1, h2⟩ := hF _ hm
    rw [hb] at h1
    injection h1 with h1
    subst h1
    rw [hu] at h2
    cases h2
/-- A tape of one piece, of bytes. -/
structure T1 (H : Hp) (g q : Nat) (at_ : Int) (L : List UInt8) (j cj : Nat) (p : Option Addr) (c : Nat) (cp : Int) : Prop where
  hg : H.at g = some (tpB q (.slice (some ⟨j, 0, none⟩) 1 cj) at_)
  hj : H.at j = some (pcB p L.length c)
  hb : BS H (.slice p L.length c) L
  hq : H.at q = some (pwB cp)
theorem T1.ext {H H' : Hp} {g q : Nat} {at_ : Int} {L : List UInt8} {j cj : Nat} {p : Option Addr} {c : Nat} {cp : Int} (h : T1 H g q at_ L j cj p c cp) (x : HExt [] H H') : T1 H' g q at_ L j cj p c cp :=
  ⟨(x.eq _ (Hp.at_lt h.hg) (by simp)).trans h.hg, (x.eq _ (Hp.at_lt h.hj) (by simp)).trans h.hj, h.hb.ext x, (x.eq _ (Hp.at_lt h.hq) (by simp)).trans h.hq⟩
theorem T1.ne {H : Hp} {g q : Nat} {at_ : Int} {L : List UInt8} {j cj : Nat} {p : Option Addr} {c : Nat} {cp : Int} (h : T1 H g q at_ L j cj p c cp) : g ≠ j ∧ g ≠ q ∧ j ≠ q := by
  obtain ⟨h1, h2, h3, h4⟩ := h
  refine ⟨?_, ?_, ?_⟩
  · rintro rfl
    rw [h1] at h2
    cases h2
  · rintro rfl
    rw [h1] at h4
    cases h4
  · rintro rfl
    rw [h2] at h4
    cases h4
def t1P (g q : Nat) (at_ : Int) (L : List UInt8) (H : Hp) : Prop := ∃ j cj p c cp, T1 H g q at_ L j cj p c cp
set_option maxHeartbeats 4000000 in
set_option maxRecDepth 100000 in
set_option linter.unusedSimpArgs false in
theorem g_Put0 (H : Hp) (g q : Nat) (c0 : Int) (h : H.at g = some (tpB q (.slice none 0 0) 0)) (hq : H.at q = some (pwB c0)) (hc0 : 0 ≤ c0 ∧ c0 < 1000000) (p : Option Addr) (n c : Nat) (L : List UInt8) (hb : BS H (.slice p n c) L) (hn : 0 < n ∧ n ≤ 200) :
    GCalls Try.prog 83 [.pointer (some ⟨g, 0, none⟩), .slice p n c] [g, q] H fun v H' => v = .int .i64 0 ∧ t1P g q 1 L H' ∧ HExt [g, q] H H' := by
  have hP := fun H h hq p n c hn => g_put0 H g q c0 h hq hc0 p n c hn
  have hi := Hp.at_lt h
  have hqi := Hp.at_lt hq
  have hln := hb.len
  subst hln
  refine GCalls.body tab_is Try.func83 rfl Try.results83 Try.ntmps83 (by simp) ?_ ?_
  · first | (intro _ h; cases h; done) | (simp; done) | (simp; omega) | (intro i hi; simp at hi; rcases hi with rfl | rfl <;> omega) | (intro i hi; simp at hi; rcases hi with rfl | rfl | rfl <;> omega)
  focus
    refine GWP.seq ?_
    refine GWP.region ?_
    refine GOps.r rfl rfl rfl rfl (grd_assign rfl rfl) ?_
    refine GOps.nil ?_
    refine GWP.seq ?_
    refine GWP.block ?_
    refine GWP.seq ?_
    refine GWP.region ?_
    refine GOps.r rfl rfl rfl rfl (grd_move rfl rfl) ?_
    refine GOps.r rfl rfl rfl rfl (grd_peql tab_is rfl rfl rfl rfl rfl) ?_
    refine GOps.r rfl rfl rfl rfl (grd_move rfl rfl) ?_
    refine GOps.take rfl rfl ?_ ?_
    · simp; done
    refine GOps.r rfl rfl rfl rfl (grd_move rfl rfl) ?_
    refine GOps.take rfl rfl ?_ ?_
    · simp; done
    refine GOps.r rfl rfl rfl rfl (grd_len tab_is rfl rfl rfl rfl rfl) ?_
    refine GOps.take rfl rfl ?_ ?_
    · simp; done
    refine GOps.r rfl rfl rfl rfl (grd_eql rfl rfl rfl) ?_
    refine GOps.r rfl rfl rfl rfl (grd_pick_f rfl rfl ?_ rfl) ?_
    · simp; done
    refine GOps.r rfl rfl rfl rfl (grd_assign rfl rfl) ?_
    refine GOps.nil ?_
    refine GWP.cond_f rfl ?_ ?_
    · exact decide_eq_false (by omega)
    refine GWP.seq ?_
    refine GWP.region ?_
    refine GOps.r rfl rfl rfl rfl (grd_move rfl rfl) ?_
    refine GOps.r rfl rfl rfl rfl (grd_len tab_is rfl rfl rfl rfl rfl) ?_
    refine GOps.r rfl rfl rfl rfl (grd_gtr rfl rfl rfl) ?_
    refine GOps.r rfl rfl rfl rfl (grd_assign rfl rfl) ?_
    refine GOps.nil ?_
    refine GWP.cond_f rfl ?_ ?_
    · exact decide_eq_false (by omega)
    refine GWP.skip ?_
    refine GWP.seq ?_
    refine GWP.region ?_
    refine GOps.r rfl rfl rfl rfl (grd_move rfl rfl) ?_
    refine GOps.r rfl rfl rfl rfl (grd_move rfl rfl) ?_
    focus
      refine GOps.w rfl rfl rfl rfl (gop_call rfl Try.call125 rfl ?_ (g_cloneF _ _ _ _ ?_ ?_ ?_)) ?_
      · intro _ h; cases h; done
      rotate_left 1
      · assumption
      · omega
    rintro _ Hxh6 ⟨⟨ph1, nh2, ch3, rfl, bh4, fh5⟩, xh6⟩
    have xh6l := HExt.len xh6; try simp at xh6l
    have bh4n := BS.len bh4; try simp at bh4n; try subst bh4n
    focus
      refine GOps.r rfl rfl rfl rfl (grd_build (cs := ?_) tab_is rfl rfl rfl ?_ rfl ?_) ?_
      rotate_left 1
      · decide
      · simp [gfill, gsets, Value.cells]; rfl
    refine GOps.w rfl rfl rfl rfl (gop_call rfl Try.call95 rfl ?_ (hP _ ?_ ?_ _ _ _ ?_)) ?_
    · simp [Ctx.may]; done
    refine (HExt.eq (by assumption) _ ?_ ?_).trans ?_
    · omega
    · intro h; cases h; done
    · assumption
    refine (HExt.eq (by assumption) _ ?_ ?_).trans ?_
    · omega
    · intro h; cases h; done
    · assumption
    · omega
    rintro _ Hxh13 ⟨rfl, ⟨jh7, dh8, th9, uh10, lh11, wh12⟩, xh13⟩
    have xh13l := HExt.len xh13; try simp at xh13l
    refine GOps.r rfl rfl rfl rfl (grd_assign rfl rfl) ?_
    refine GOps.nil ?_
    refine GWP.ret ?_
    refine ⟨_, .one rfl, ?_⟩
    refine ⟨?_, ?_⟩
    · rfl
    refine ⟨?_, ?_⟩
    rotate_left 1
    refine HExt.tr ?_ (by assumption) ?_
    refine HExt.tr ?_ (by assumption) ?_
    · exact HExt.refl _ _
    · intro _ h; cases h; done
    · simp; done
  subst bh4n
  exact ⟨jh7, dh8, ph1, ch3, c0 + 1, th9, uh10, bs_extF bh4 xh13 (fun j hj => by
    rcases List.mem_cons.1 hj with rfl | hj
    · exact ⟨_, (xh6.eq _ hi (by simp)).trans h, rfl⟩
    · obtain rfl := List.mem_singleton.1 hj
      exact ⟨_, (xh6.eq _ hqi (by simp)).trans hq, rfl⟩), wh12⟩
set_option maxHeartbeats 4000000 in
set_option maxRecDepth 100000 in
set_option linter.unusedSimpArgs false in
theorem g_Seek0 (H : Hp) (g q : Nat) (at_ : Int) (L : List UInt8) (j cj : Nat) (p : Option Addr) (c : Nat) (cp : Int) (h : T1 H g q at_ L j cj p c cp) : GCalls Try.prog 84 [.pointer (some ⟨g, 0, none⟩), .int .i64 0] [g] H fun v H' => v = .int .i64 0 ∧ T1 H' g q 0 L j cj p c cp ∧ HExt [g] H H' := by
  obtain ⟨n1, n2, n3⟩ := h.ne
  obtain ⟨hg, hj, hb, hq⟩ := h
  have hgl := Hp.at_lt hg
  have hg0 := hg
  unfold tpB at hg
  refine GCalls.body tab_is Try.func84 rfl Try.results84 Try.ntmps84 (by simp) ?_ ?_
  · first | (intro _ h; cases h; done) | (simp; done) | (simp; omega) | (intro i hi; simp at hi; rcases hi with rfl | rfl <;> omega) | (intro i hi; simp at hi; rcases hi with rfl | rfl | rfl <;> omega)
  focus
    refine GWP.seq ?_
    refine GWP.region ?_
    refine GOps.r rfl rfl rfl rfl (grd_assign rfl rfl) ?_
    refine GOps.nil ?_
    refine GWP.seq ?_
    refine GWP.block ?_
    refine GWP.seq ?_
    refine GWP.region ?_
    refine GOps.r rfl rfl rfl rfl (grd_move rfl rfl) ?_
    refine GOps.r rfl rfl rfl rfl (grd_peql tab_is rfl rfl rfl rfl rfl) ?_
    refine GOps.r rfl rfl rfl rfl (grd_move rfl rfl) ?_
    refine GOps.take rfl rfl ?_ ?_
    · simp; done
    refine GOps.r rfl rfl rfl rfl (grd_move rfl rfl) ?_
    refine GOps.take rfl rfl ?_ ?_
    · simp; done
    refine GOps.r rfl rfl rfl rfl (grd_lss rfl rfl rfl) ?_
    refine GOps.r rfl rfl rfl rfl (grd_pick_f rfl rfl ?_ rfl) ?_
    · simp; done
    refine GOps.r rfl rfl rfl rfl (grd_move rfl rfl) ?_
    refine GOps.take rfl rfl ?_ ?_
    · simp; done
    refine GOps.r rfl rfl rfl rfl (grd_move rfl rfl) ?_
    refine GOps.take rfl rfl ?_ ?_
    · simp; done
    refine GOps.r rfl rfl rfl rfl (grd_move rfl rfl) ?_
    refine GOps.take rfl rfl ?_ ?_
    · simp; done
    refine GOps.w1 rfl rfl rfl rfl (gop_call rfl Try.call30 rfl ?_ (g_tlenS _ g q _ _ _ _ hg0)) ?_
    · intro _ h; cases h; done
    refine GOps.take rfl rfl ?_ ?_
    · simp; done
    refine GOps.r rfl rfl rfl rfl (grd_gtr rfl rfl rfl) ?_
    refine GOps.r rfl rfl rfl rfl (grd_pick_f rfl rfl ?_ rfl) ?_
    · exact decide_eq_false (by omega)
    refine GOps.r rfl rfl rfl rfl (grd_assign rfl rfl) ?_
    refine GOps.nil ?_
    refine GWP.cond_f rfl ?_ ?_
    · exact decide_eq_false (by omega)
    refine GWP.seq ?_
    refine GWP.region ?_
    refine GOps.r rfl rfl rfl rfl (grd_move rfl rfl) ?_
    refine GOps.r rfl rfl rfl rfl (grd_nil rfl rfl) ?_
    refine GOps.r rfl rfl rfl rfl (grd_fieldAddr tab_is rfl rfl rfl rfl rfl) ?_
    focus
      refine GOps.r rfl rfl rfl rfl (grd_load1 (b := ?_) (v := ?_) tab_is rfl rfl rfl rfl ?_ ?_) ?_
      rotate_left 2
      · assumption
      · rfl
    refine GOps.w1 rfl rfl rfl rfl (gop_call rfl Try.call33 rfl ?_ (g_pon0 _ q cp ?_)) ?_
    · intro _ h; cases h; done
    · assumption
    refine GOps.r rfl rfl rfl rfl (grd_not rfl rfl) ?_
    refine GOps.r rfl rfl rfl rfl (grd_assign rfl rfl) ?_
    refine GOps.nil ?_
    refine GWP.cond_f rfl ?_ ?_
    · simp; done
    refine GWP.skip ?_
    refine GWP.seq ?_
    refine GWP.region ?_
    refine GOps.r rfl rfl rfl rfl (grd_move rfl rfl) ?_
    refine GOps.r rfl rfl rfl rfl (grd_move rfl rfl) ?_
    refine GOps.r rfl rfl rfl rfl (grd_nil rfl rfl) ?_
    refine GOps.r rfl rfl rfl rfl (grd_fieldAddr tab_is rfl rfl rfl rfl rfl) ?_
    focus
      refine GOps.s rfl rfl rfl (gop_store1 (b := ?_) tab_is rfl rfl rfl rfl rfl rfl ?_ ?_ ?_ ?_) ?_
      rotate_left 1
      · assumption
      · rfl
      · exact Nat.le_of_ble_eq_true rfl
      · exact .inl (by simp)
    refine GOps.nil ?_
    refine GWP.seq ?_
    refine GWP.region ?_
    refine GOps.r rfl rfl rfl rfl (grd_assign rfl rfl) ?_
    refine GOps.nil ?_
    refine GWP.ret ?_
    refine ⟨_, .one rfl, ?_⟩
    refine ⟨?_, ?_⟩
    · rfl
    refine ⟨?_, ?_⟩
    rotate_left 1
    refine HExt.put ?_ ?_
    · exact HExt.refl _ _
    · exact .inl (by simp)
  exact ⟨Hp.at_put_eq hgl, (Hp.at_put_ne n1).trans hj, bs_put hg0 rfl hb, (Hp.at_put_ne n2).trans hq⟩
set_option maxHeartbeats 4000000 in
set_option maxRecDepth 100000 in
set_option linter.unusedSimpArgs false in
theorem g_Get1 (H : Hp) (g q : Nat) (L : List UInt8) (hL : L.length ≤ 200) (j cj : Nat) (p : Option Addr) (c : Nat) (cp : Int) (h : T1 H g q 0 L j cj p c cp) : GCalls Try.prog 85 [.pointer (some ⟨g, 0, none⟩)] [g] H fun v H' => (∃ p' n' c', v = .tuple #[.slice p' n' c', .int .i64 0] ∧ BS H' (.slice p' n' c') L) ∧ T1 H' g q 1 L j cj p c cp ∧ HExt [g] H H' := by
  obtain ⟨n1, n2, n3⟩ := h.ne
  obtain ⟨hg, hj, hb, hq⟩ := h
  have hgl := Hp.at_lt hg
  have hjl := Hp.at_lt hj
  have hg0 := hg
  have hj0 := hj
  unfold tpB at hg
  unfold pcB at hj
  refine GCalls.body tab_is Try.func85 rfl Try.results85 Try.ntmps85 (by simp) ?_ ?_
  · first | (intro _ h; cases h; done) | (simp; done) | (simp; omega) | (intro i hi; simp at hi; rcases hi with rfl | rfl <;> omega) | (intro i hi; simp at hi; rcases hi with rfl | rfl | rfl <;> omega)
  focus
    refine GWP.seq ?_
    refine GWP.region ?_
    refine GOps.r rfl rfl rfl rfl (grd_assign rfl rfl) ?_
    refine GOps.r rfl rfl rfl rfl (grd_assign rfl rfl) ?_
    refine GOps.nil ?_
    refine GWP.seq ?_
    refine GWP.block ?_
    refine GWP.seq ?_
    refine GWP.region ?_
    refine GOps.r rfl rfl rfl rfl (grd_move rfl rfl) ?_
    refine GOps.r rfl rfl rfl rfl (grd_peql tab_is rfl rfl rfl rfl rfl) ?_
    refine GOps.r rfl rfl rfl rfl (grd_assign rfl rfl) ?_
    refine GOps.nil ?_
    refine GWP.cond_f rfl ?_ ?_
    · simp; done
    refine GWP.seq ?_
    refine GWP.region ?_
    refine GOps.r rfl rfl rfl rfl (grd_move rfl rfl) ?_
    refine GOps.r rfl rfl rfl rfl (grd_nil rfl rfl) ?_
    refine GOps.r rfl rfl rfl rfl (grd_fieldAddr tab_is rfl rfl rfl rfl rfl) ?_
    focus
      refine GOps.r rfl rfl rfl rfl (grd_load1 (b := ?_) (v := ?_) tab_is rfl rfl rfl rfl ?_ ?_) ?_
      rotate_left 2
      · assumption
      · rfl
    refine GOps.w1 rfl rfl rfl rfl (gop_call rfl Try.call33 rfl ?_ (g_pon0 _ q cp ?_)) ?_
    · intro _ h; cases h; done
    · assumption
    refine GOps.r rfl rfl rfl rfl (grd_not rfl rfl) ?_
    refine GOps.r rfl rfl rfl rfl (grd_assign rfl rfl) ?_
    refine GOps.nil ?_
    refine GWP.cond_f rfl ?_ ?_
    · simp; done
    refine GWP.seq ?_
    refine GWP.drawR (by kernel_rfl) (by kernel_rfl) (by kernel_rfl) ?_
    refine GQ.r rfl rfl rfl rfl (grd_move rfl rfl) ?_ ?_
    · exact .inl rfl
    refine GQ.r rfl rfl rfl rfl (grd_nil rfl rfl) ?_ ?_
    · exact .inl rfl
    refine GQ.r rfl rfl rfl rfl (grd_fieldAddr tab_is rfl rfl rfl rfl rfl) ?_ ?_
    · exact .inl rfl
    focus
      refine GQ.r rfl rfl rfl rfl (grd_load1 (b := ?_) (v := ?_) tab_is rfl rfl rfl rfl ?_ ?_) ?_ ?_
      rotate_left 2
      · assumption
      · rfl
      · exact .inl rfl
    refine GQ.r rfl rfl rfl rfl (grd_move rfl rfl) ?_ ?_
    · exact .inl rfl
    refine GQ.r rfl rfl rfl rfl (grd_nil rfl rfl) ?_ ?_
    · exact .inl rfl
    refine GQ.r rfl rfl rfl rfl (grd_fieldAddr tab_is rfl rfl rfl rfl rfl) ?_ ?_
    · exact .inl rfl
    focus
      refine GQ.r rfl rfl rfl rfl (grd_load1 (b := ?_) (v := ?_) tab_is rfl rfl rfl rfl ?_ ?_) ?_ ?_
      rotate_left 2
      · assumption
      · rfl
      · exact .inl rfl
    refine GQ.r rfl rfl rfl rfl (grd_len tab_is rfl rfl rfl rfl rfl) ?_ ?_
    · exact .inl rfl
    refine GQ.r rfl rfl rfl rfl (grd_geq rfl rfl rfl) ?_ ?_
    · exact .inl rfl
    refine GQ.r rfl rfl rfl rfl (grd_assign rfl rfl) ?_ ?_
    · exact .inl rfl
    refine GQ.nil ?_
    refine GWP.cond_f rfl ?_ ?_
    · exact decide_eq_false (by omega)
    refine GWP.seq ?_
    refine GWP.drawT 9 (by kernel_rfl) (by kernel_rfl) (by simp only [List.take_succ_cons, List.take_zero]; rfl) (by simp only [List.drop_succ_cons, List.drop_zero]; rfl) ?_
    refine GQ.r rfl rfl rfl rfl (grd_move rfl rfl) ?_ ?_
    · exact .inl rfl
    refine GQ.r rfl rfl rfl rfl (grd_nil rfl rfl) ?_ ?_
    · exact .inl rfl
    refine GQ.r rfl rfl rfl rfl (grd_fieldAddr tab_is rfl rfl rfl rfl rfl) ?_ ?_
    · exact .inl rfl
    refine GQ.r rfl rfl rfl rfl (grd_fieldAddr tab_is rfl rfl rfl rfl rfl) ?_ ?_
    · exact .inl rfl
    focus
      refine GQ.r rfl rfl rfl rfl (grd_load1 (b := ?_) (v := ?_) tab_is rfl rfl rfl rfl ?_ ?_) ?_ ?_
      rotate_left 2
      · assumption
      · rfl
      · exact .inl rfl
    refine GQ.r rfl rfl rfl rfl (grd_move rfl rfl) ?_ ?_
    · exact .inl rfl
    refine GQ.r rfl rfl rfl rfl (grd_nil rfl rfl) ?_ ?_
    · exact .inl rfl
    refine GQ.r rfl rfl rfl rfl (grd_fieldAddr tab_is rfl rfl rfl rfl rfl) ?_ ?_
    · exact .inl rfl
    focus
      refine GQ.r rfl rfl rfl rfl (grd_load1 (b := ?_) (v := ?_) tab_is rfl rfl rfl rfl ?_ ?_) ?_ ?_
      rotate_left 2
      · assumption
      · rfl
      · exact .inl rfl
    refine GQ.nil ?_
    refine GOps.w1 rfl rfl rfl rfl (gop_call rfl Try.call136 rfl ?_ (g_contains0 _ _)) ?_
    · intro _ h; cases h; done
    refine GOps.r rfl rfl rfl rfl (grd_assign rfl rfl) ?_
    refine GOps.nil ?_
    refine GWP.cond_f rfl ?_ ?_
    · with_reducible rfl
    refine GWP.skip ?_
    refine GWP.seq ?_
    refine GWP.drawL [.pures [0, 4, 1, 5, 2, 6], .reads [3, 7], .pures [8], .reads [9], .write 10, .reset 11] false [g, j] (by kernel_rfl) (by kernel_rfl) (by kernel_rfl) (by kernel_rfl) ?_ ?_
    · simp; omega
    refine GRs.pures (by simp only [List.filterMap_cons, List.filterMap_nil, List.getElem?_toArray, List.getElem?_cons_succ, List.getElem?_cons_zero]; rfl) ?_
    refine GQ.r rfl rfl rfl rfl (grd_move rfl rfl) ?_ ?_
    · refine .inr ?_; simp; done
    refine GQ.r rfl rfl rfl rfl (grd_move rfl rfl) ?_ ?_
    · refine .inr ?_; simp; done
    refine GQ.r rfl rfl rfl rfl (grd_nil rfl rfl) ?_ ?_
    · refine .inr ?_; simp; done
    refine GQ.r rfl rfl rfl rfl (grd_nil rfl rfl) ?_ ?_
    · refine .inr ?_; simp; done
    refine GQ.r rfl rfl rfl rfl (grd_fieldAddr tab_is rfl rfl rfl rfl rfl) ?_ ?_
    · refine .inr ?_; simp; done
    refine GQ.r rfl rfl rfl rfl (grd_fieldAddr tab_is rfl rfl rfl rfl rfl) ?_ ?_
    · refine .inr ?_; simp; done
    refine GQ.nil ?_
    refine GRs.reads (by simp only [List.filterMap_cons, List.filterMap_nil, List.getElem?_toArray, List.getElem?_cons_succ, List.getElem?_cons_zero]; rfl) ?_
    focus
      refine GQ.r rfl rfl rfl rfl (grd_load1 (b := ?_) (v := ?_) tab_is rfl rfl rfl rfl ?_ ?_) ?_ ?_
      rotate_left 2
      · assumption
      · rfl
      · refine .inr ?_; simp; done
    focus
      refine GQ.r rfl rfl rfl rfl (grd_load1 (b := ?_) (v := ?_) tab_is rfl rfl rfl rfl ?_ ?_) ?_ ?_
      rotate_left 2
      · assumption
      · rfl
      · refine .inr ?_; simp; done
    refine GQ.nil ?_
    refine GRs.pures (by simp only [List.filterMap_cons, List.filterMap_nil, List.getElem?_toArray, List.getElem?_cons_succ, List.getElem?_cons_zero]; rfl) ?_
    focus
      refine GQ.r rfl rfl rfl rfl (grd_indexAddrK (k2 := ?_) tab_is rfl rfl rfl rfl rfl ?_ ?_ ?_) ?_ ?_
      rotate_left 1
      · omega
      · omega
      · simp; rfl
      · refine .inr ?_; simp; done
    refine GQ.nil ?_
    refine GRs.reads (by simp only [List.filterMap_cons, List.filterMap_nil, List.getElem?_toArray, List.getElem?_cons_succ, List.getElem?_cons_zero]; rfl) ?_
    focus
      refine GQ.r rfl rfl rfl rfl (grd_loadNK (b := ?_) (cs := ?_) tab_is rfl rfl rfl rfl ?_ ?_ ?_) ?_ ?_
      rotate_left 2
      · assumption
      · exact Nat.le_of_ble_eq_true rfl
      · simp [Value.cells]; rfl
      · refine .inr ?_; simp; done
    refine GQ.nil ?_
    focus
      refine GRs.write1 true [g, j] rfl rfl ?_ rfl rfl (GOpF.of [] ?_ ?_ (gop_alloc' (id := ?_) ?_ tab_is rfl rfl ?_)) rfl ?_ ?_ ?_ ?_ ?_
      · with_reducible rfl
      · intro _ h; cases h; done
      · intro _ h; cases h; done
      rotate_left 1
      · rfl
      · decide
      · intro _ h; cases h; done
      focus
        focus
          refine List.forall_mem_cons.2 ⟨⟨⟨?_, ?_⟩, ?_⟩, ?_⟩
          rotate_left 1
          · assumption
          · intro h; cases h; done
          focus
            refine List.forall_mem_cons.2 ⟨⟨⟨?_, ?_⟩, ?_⟩, ?_⟩
            rotate_left 1
            · assumption
            · intro h; cases h; done
            · intro _ h; cases h; done
      · simp; done
      focus
        · simp; omega
    focus
      refine GRs.resetS true [] rfl rfl ?_ rfl (gop_storeC (b := ?_) (cs := ?_) tab_is rfl rfl ?_ rfl rfl ?_ ?_ ?_ ?_ ?_ ?_) ?_ ?_
      · with_reducible rfl
      rotate_left 2
      · rfl
      · rfl
      · exact Hp.at_push_eq
      · rfl
      · exact Nat.le_of_ble_eq_true rfl
      · exact .inr (by simp)
      · simp [splice, Value.cells]; rfl
      · intro _ h; cases h; done
    refine GRs.nil ?_
    refine GWP.seq ?_
    refine GWP.region ?_
    refine GOps.r rfl rfl rfl rfl (grd_move rfl rfl) ?_
    refine GOps.r rfl rfl rfl rfl (grd_nil rfl rfl) ?_
    refine GOps.r rfl rfl rfl rfl (grd_fieldAddr tab_is rfl rfl rfl rfl rfl) ?_
    focus
      refine GOps.r rfl rfl rfl rfl (grd_load1 (b := ?_) (v := ?_) tab_is rfl rfl rfl rfl ?_ ?_) ?_
      rotate_left 2
      refine (Hp.at_put_ne ?_).trans ?_
      · omega
      refine (Hp.at_push_lt ?_).trans ?_
      · omega
      · assumption
      · rfl
    refine GOps.r rfl rfl rfl rfl (grd_add64 rfl rfl rfl ?_) ?_
    · omega
    refine GOps.r rfl rfl rfl rfl (grd_nil rfl rfl) ?_
    refine GOps.r rfl rfl rfl rfl (grd_fieldAddr tab_is rfl rfl rfl rfl rfl) ?_
    focus
      refine GOps.s rfl rfl rfl (gop_store1 (b := ?_) tab_is rfl rfl rfl rfl rfl rfl ?_ ?_ ?_ ?_) ?_
      rotate_left 1
      refine (Hp.at_put_ne ?_).trans ?_
      · omega
      refine (Hp.at_push_lt ?_).trans ?_
      · omega
      · assumption
      · rfl
      · exact Nat.le_of_ble_eq_true rfl
      · exact .inl (by simp)
    refine GOps.nil ?_
    refine GWP.seq ?_
    refine GWP.seq ?_
    refine GWP.region ?_
    refine GOps.r rfl rfl rfl rfl (grd_fieldAddr tab_is rfl rfl rfl rfl rfl) ?_
    focus
      refine GOps.r rfl rfl rfl rfl (grd_load1 (b := ?_) (v := ?_) tab_is rfl rfl rfl rfl ?_ ?_) ?_
      rotate_left 2
      refine (Hp.at_put_ne ?_).trans ?_
      · omega
      refine Hp.at_put_eq ?_
      · simp; done
      · rfl
    refine GOps.nil ?_
    refine GWP.cond_f rfl ?_ ?_
    · with_reducible rfl
    refine GWP.skip ?_
    refine GWP.seq ?_
    refine GWP.region ?_
    refine GOps.r rfl rfl rfl rfl (grd_fieldAddr tab_is rfl rfl rfl rfl rfl) ?_
    focus
      refine GOps.r rfl rfl rfl rfl (grd_load1 (b := ?_) (v := ?_) tab_is rfl rfl rfl rfl ?_ ?_) ?_
      rotate_left 2
      refine (Hp.at_put_ne ?_).trans ?_
      · omega
      refine Hp.at_put_eq ?_
      · simp; done
      · rfl
    focus
      refine GOps.w rfl rfl rfl rfl (gop_call rfl Try.call125 rfl ?_ (g_cloneF _ _ _ _ ?_ ?_ ?_)) ?_
      · intro _ h; cases h; done
      rotate_left 1
      focus
        refine bs_put (b := ?_) ?_ ?_ ?_
        rotate_left 3
        focus
          refine BS.ext (by assumption) ?_
          refine HExt.put ?_ ?_
          refine HExt.push ?_
          · exact HExt.refl _ _
          · exact .inr (by omega)
        rotate_left 1
        refine (Hp.at_put_ne ?_).trans ?_
        · omega
        refine (Hp.at_push_lt ?_).trans ?_
        · omega
        · assumption
        · rfl
      · omega
    rintro _ Hxj6 ⟨⟨pj1, nj2, cj3, rfl, bj4, fj5⟩, xj6⟩
    have xj6l := HExt.len xj6; try simp at xj6l
    refine GOps.r rfl rfl rfl rfl (grd_assign rfl rfl) ?_
    refine GOps.r rfl rfl rfl rfl (grd_assign rfl rfl) ?_
    refine GOps.nil ?_
    refine GWP.ret ?_
    refine ⟨_, .two (.one rfl) (.one rfl), ?_⟩
    refine ⟨?_, ?_⟩
    focus
      refine ⟨_, _, _, rfl, ?_⟩
      · assumption
    refine ⟨?_, ?_⟩
    rotate_left 1
    refine HExt.tr ?_ (by assumption) ?_
    refine HExt.put ?_ ?_
    refine HExt.put ?_ ?_
    refine HExt.push ?_
    · exact HExt.refl _ _
    · exact .inr (by omega)
    · exact .inl (by simp)
    · intro _ h; cases h; done
  have hql := Hp.at_lt hq
  exact T1.ext ⟨Hp.at_put_eq (by simp; omega), (Hp.at_put_ne n1).trans ((Hp.at_put_ne (by omega)).trans ((Hp.at_push_lt hjl).trans hj0)), bs_put (b := tpB q (.slice (some ⟨j, 0, none⟩) 1 cj) 0) ((Hp.at_put_ne (by omega)).trans ((Hp.at_push_lt hgl).trans hg0)) rfl (bs_put Hp.at_push_eq rfl (bs_pushed hb)), (Hp.at_put_ne n2).trans ((Hp.at_put_ne (by omega)).trans ((Hp.at_push_lt hql).trans hq))⟩ xj6
set_option maxHeartbeats 4000000 in
set_option maxRecDepth 100000 in
set_option linter.unusedSimpArgs false in
theorem g_Get2 (H : Hp) (g q : Nat) (L : List UInt8) (j cj : Nat) (p : Option Addr) (c : Nat) (cp : Int) (h : T1 H g q 1 L j cj p c cp) : GCalls Try.prog 85 [.pointer (some ⟨g, 0, none⟩)] [] H fun v H' => v = .tuple #[.slice none 0 0, .int .i64 6] ∧ H' = H := by
  obtain ⟨n1, n2, n3⟩ := h.ne
  obtain ⟨hg, hj, hb, hq⟩ := h
  unfold tpB at hg
  refine GCalls.body tab_is Try.func85 rfl Try.results85 Try.ntmps85 (by simp) ?_ ?_
  · first | (intro _ h; cases h; done) | (simp; done) | (simp; omega) | (intro i hi; simp at hi; rcases hi with rfl | rfl <;> omega) | (intro i hi; simp at hi; rcases hi with rfl | rfl | rfl <;> omega)
  focus
    refine GWP.seq ?_
    refine GWP.region ?_
    refine GOps.r rfl rfl rfl rfl (grd_assign rfl rfl) ?_
    refine GOps.r rfl rfl rfl rfl (grd_assign rfl rfl) ?_
    refine GOps.nil ?_
    refine GWP.seq ?_
    refine GWP.block ?_
    refine GWP.seq ?_
    refine GWP.region ?_
    refine GOps.r rfl rfl rfl rfl (grd_move rfl rfl) ?_
    refine GOps.r rfl rfl rfl rfl (grd_peql tab_is rfl rfl rfl rfl rfl) ?_
    refine GOps.r rfl rfl rfl rfl (grd_assign rfl rfl) ?_
    refine GOps.nil ?_
    refine GWP.cond_f rfl ?_ ?_
    · simp; done
    refine GWP.seq ?_
    refine GWP.region ?_
    refine GOps.r rfl rfl rfl rfl (grd_move rfl rfl) ?_
    refine GOps.r rfl rfl rfl rfl (grd_nil rfl rfl) ?_
    refine GOps.r rfl rfl rfl rfl (grd_fieldAddr tab_is rfl rfl rfl rfl rfl) ?_
    focus
      refine GOps.r rfl rfl rfl rfl (grd_load1 (b := ?_) (v := ?_) tab_is rfl rfl rfl rfl ?_ ?_) ?_
      rotate_left 2
      · assumption
      · rfl
    refine GOps.w1 rfl rfl rfl rfl (gop_call rfl Try.call33 rfl ?_ (g_pon0 _ q cp ?_)) ?_
    · intro _ h; cases h; done
    · assumption
    refine GOps.r rfl rfl rfl rfl (grd_not rfl rfl) ?_
    refine GOps.r rfl rfl rfl rfl (grd_assign rfl rfl) ?_
    refine GOps.nil ?_
    refine GWP.cond_f rfl ?_ ?_
    · simp; done
    refine GWP.seq ?_
    refine GWP.drawR (by kernel_rfl) (by kernel_rfl) (by kernel_rfl) ?_
    refine GQ.r rfl rfl rfl rfl (grd_move rfl rfl) ?_ ?_
    · exact .inl rfl
    refine GQ.r rfl rfl rfl rfl (grd_nil rfl rfl) ?_ ?_
    · exact .inl rfl
    refine GQ.r rfl rfl rfl rfl (grd_fieldAddr tab_is rfl rfl rfl rfl rfl) ?_ ?_
    · exact .inl rfl
    focus
      refine GQ.r rfl rfl rfl rfl (grd_load1 (b := ?_) (v := ?_) tab_is rfl rfl rfl rfl ?_ ?_) ?_ ?_
      rotate_left 2
      · assumption
      · rfl
      · exact .inl rfl
    refine GQ.r rfl rfl rfl rfl (grd_move rfl rfl) ?_ ?_
    · exact .inl rfl
    refine GQ.r rfl rfl rfl rfl (grd_nil rfl rfl) ?_ ?_
    · exact .inl rfl
    refine GQ.r rfl rfl rfl rfl (grd_fieldAddr tab_is rfl rfl rfl rfl rfl) ?_ ?_
    · exact .inl rfl
    focus
      refine GQ.r rfl rfl rfl rfl (grd_load1 (b := ?_) (v := ?_) tab_is rfl rfl rfl rfl ?_ ?_) ?_ ?_
      rotate_left 2
      · assumption
      · rfl
      · exact .inl rfl
    refine GQ.r rfl rfl rfl rfl (grd_len tab_is rfl rfl rfl rfl rfl) ?_ ?_
    · exact .inl rfl
    refine GQ.r rfl rfl rfl rfl (grd_geq rfl rfl rfl) ?_ ?_
    · exact .inl rfl
    refine GQ.r rfl rfl rfl rfl (grd_assign rfl rfl) ?_ ?_
    · exact .inl rfl
    refine GQ.nil ?_
    refine GWP.cond_t rfl ?_ ?_
    · exact decide_eq_true (by omega)
    refine GWP.seq ?_
    refine GWP.region ?_
    refine GOps.r rfl rfl rfl rfl (grd_assign rfl rfl) ?_
    refine GOps.r rfl rfl rfl rfl (grd_assign rfl rfl) ?_
    refine GOps.nil ?_
    refine GWP.ret ?_
    refine ⟨_, .two (.one rfl) (.one rfl), ?_⟩
    refine ⟨?_, ?_⟩
    · rfl
    · rfl
end Go.Proofs.Ytcbngjpihcemiaa

/- Blocks of a segment: read. -/
namespace Go.Proofs.Ytcbngjpihcemiaa
open Go.RowKit

/-- What a tape's block is. -/
inductive SegO where
  | bad (e : Nat)
  | head (a b c d e : Nat)
  | fin (a b c d : Nat) (last : Bool)
  | data (M : List UInt8)
/-- The greatest number. -/
def segTop : Nat := 1073741824
def segN (k : UInt8) (r1 r2 r3 r4 r5 : Nat × RdS) : SegO :=
  if r5.2.fin ≠ 0 then .bad 3 else if k.toNat = 72 then .head r1.1 r2.1 r3.1 r4.1 r5.1 else if k.toNat = 84 ∧ r5.1 ≤ 1 then .fin r1.1 r2.1 r3.1 r4.1 (decide (r5.1 = 1)) else .bad 3
def segO (L : List UInt8) : SegO := match openL L with
  | none => .bad 4
  | some [] => .bad 3
  | some (k :: M) => if k.toNat = 68 ∧ 1 ≤ M.length ∧ M.length ≤ 160 then .data M else
    let r1 := RdS.number ⟨M, 0⟩ segTop
    let r2 := r1.2.number segTop
    let r3 := r2.2.number segTop
    let r4 := r3.2.number segTop
    let r5 := r4.2.number segTop
    segN k r1 r2 r3 r4 r5
def SegV (H : Hp) (v : Value) : SegO → Prop
  | .bad e => v = .tuple #[.nilIface, .int .i64 (e : Int)]
  | .head a b c d e => v = .tuple #[.iface 92 (.agg #[.int .i64 (a : Int), .int .i64 (b : Int), .int .i64 (c : Int), .int .i64 (d : Int), .int .i64 (e : Int)]), .int .i64 0]
  | .fin a b c d l => v = .tuple #[.iface 94 (.agg #[.int .i64 (a : Int), .int .i64 (b : Int), .int .i64 (c : Int), .int .i64 (d : Int), .bool l]), .int .i64 0]
  | .data M => ∃ p n c, v = .tuple #[.iface 97 (.slice p n c), .int .i64 0] ∧ BS H (.slice p n c) M
set_option maxHeartbeats 4000000 in
set_option maxRecDepth 100000 in
set_option linter.unusedSimpArgs false in
theorem g_num (s : RdS) (r : Nat × RdS) (h : s.number segTop = r) (H : Hp) (g : Nat) (p : Option Addr) (c : Nat) (hr : RG 199 H g p c s) : GCalls Try.prog 123 [.pointer (some ⟨g, 0, none⟩), .int .u64 1073741824] [g] H fun v H' => v = .int .u64 (r.1 : Int) ∧ (∃ p' c', RG 199 H' g p' c' r.2) ∧ BSk H H' ∧ HExt [g] H H' := by
  subst h
  exact g_number H g p c s 1073741824 (by decide) hr
theorem number_top {s : RdS} {r : Nat × RdS} (h : s.number segTop = r) : r.1 ≤ 1073741824 := by
  subst h
  exact number_le' s segTop
set_option maxHeartbeats 4000000 in
set_option maxRecDepth 100000 in
set_option linter.unusedSimpArgs false in
theorem g_sread (H : Hp) (p : Option Addr) (n c : Nat) (L : List UInt8) (hb : BS H (.slice p n c) L) (hn : n ≤ 35184372088832) : GCalls Try.prog 109 [.slice p n c] [] H fun v H' => SegV H' v (segO L) ∧ HExt [] H H' := by
  have hcon := fun H p n c hb hn => g_copen H p n c L hb hn
  have hop : ∀ b, openL L = some b → b.length ≤ 35184372088832 := by
    intro b hb2
    unfold openL at hb2
    split at hb2
    · injection hb2 with hb2
      subst hb2
      have := hb.len
      rw [List.length_take]
      omega
    · cases hb2
  unfold segO
  cases ho : openL L with
  | none =>
    rw [ho] at hcon
    simp only [Option.getD_some, Option.getD_none, Option.isSome_some, Option.isSome_none] at hcon
    refine GCalls.body tab_is Try.func109 rfl Try.results109 Try.ntmps109 (by simp) ?_ ?_
    · first | (intro _ h; cases h; done) | (simp; done) | (simp; omega) | (intro i hi; simp at hi; rcases hi with rfl | rfl <;> omega) | (intro i hi; simp at hi; rcases hi with rfl | rfl | rfl <;> omega)
    focus
      refine GWP.seq ?_
      refine GWP.region ?_
      refine GOps.r rfl rfl rfl rfl (grd_assign rfl rfl) ?_
      refine GOps.r rfl rfl rfl rfl (grd_assign rfl rfl) ?_
      refine GOps.nil ?_
      refine GWP.seq ?_
      refine GWP.region ?_
      refine GOps.r rfl rfl rfl rfl (grd_move rfl rfl) ?_
      refine GOps.w rfl rfl rfl rfl (gop_call rfl Try.call145 rfl ?_ (hcon _ _ _ _ ?_ ?_)) ?_
      · intro _ h; cases h; done
      · assumption
      · omega
      rintro _ Hxa5 ⟨⟨pa1, na2, ca3, rfl, ba4⟩, xa5⟩
      have xa5l := HExt.len xa5; try simp at xa5l
      refine GOps.r rfl rfl rfl rfl (grd_move rfl rfl) ?_
      focus
        refine GOps.r rfl rfl rfl rfl (grd_extract (v := ?_) rfl rfl ?_) ?_
        rotate_left 1
        · simp only [List.getElem?_toArray, List.getElem?_cons_zero, List.getElem?_cons_succ]; rfl
      focus
        refine GOps.r rfl rfl rfl rfl (grd_extract (v := ?_) rfl rfl ?_) ?_
        rotate_left 1
        · simp only [List.getElem?_toArray, List.getElem?_cons_zero, List.getElem?_cons_succ]; rfl
      refine GOps.r rfl rfl rfl rfl (grd_assign rfl rfl) ?_
      refine GOps.r rfl rfl rfl rfl (grd_assign rfl rfl) ?_
      refine GOps.nil ?_
      refine GWP.seq ?_
      refine GWP.block ?_
      refine GWP.seq ?_
      refine GWP.region ?_
      refine GOps.r rfl rfl rfl rfl (grd_move rfl rfl) ?_
      refine GOps.r rfl rfl rfl rfl (grd_not rfl rfl) ?_
      refine GOps.r rfl rfl rfl rfl (grd_assign rfl rfl) ?_
      refine GOps.nil ?_
      refine GWP.cond_t rfl ?_ ?_
      · simp; done
      refine GWP.seq ?_
      refine GWP.region ?_
      refine GOps.r rfl rfl rfl rfl (grd_assign rfl rfl) ?_
      refine GOps.r rfl rfl rfl rfl (grd_assign rfl rfl) ?_
      refine GOps.nil ?_
      refine GWP.ret ?_
      refine ⟨_, .two (.one rfl) (.one rfl), ?_⟩
      refine ⟨?_, ?_⟩
      · rfl
      · assumption
  | some b =>
    rw [ho] at hcon
    simp only [Option.getD_some, Option.getD_none, Option.isSome_some, Option.isSome_none] at hcon
    have hbl := hop b ho
    clear hop ho
    cases b with
    | nil =>
      refine GCalls.body tab_is Try.func109 rfl Try.results109 Try.ntmps109 (by simp) ?_ ?_
      · first | (intro _ h; cases h; done) | (simp; done) | (simp; omega) | (intro i hi; simp at hi; rcases hi with rfl | rfl <;> omega) | (intro i hi; simp at hi; rcases hi with rfl | rfl | rfl <;> omega)
      focus
        refine GWP.seq ?_
        refine GWP.region ?_
        refine GOps.r rfl rfl rfl rfl (grd_assign rfl rfl) ?_
        refine GOps.r rfl rfl rfl rfl (grd_assign rfl rfl) ?_
        refine GOps.nil ?_
        refine GWP.seq ?_
        refine GWP.region ?_
        refine GOps.r rfl rfl rfl rfl (grd_move rfl rfl) ?_
        refine GOps.w rfl rfl rfl rfl (gop_call rfl Try.call145 rfl ?_ (hcon _ _ _ _ ?_ ?_)) ?_
        · intro _ h; cases h; done
        · assumption
        · omega
        rintro _ Hxb5 ⟨⟨pb1, nb2, cb3, rfl, bb4⟩, xb5⟩
        have xb5l := HExt.len xb5; try simp at xb5l
        have bb4n := BS.len bb4; simp at bb4n; subst bb4n
        refine GOps.r rfl rfl rfl rfl (grd_move rfl rfl) ?_
        focus
          refine GOps.r rfl rfl rfl rfl (grd_extract (v := ?_) rfl rfl ?_) ?_
          rotate_left 1
          · simp only [List.getElem?_toArray, List.getElem?_cons_zero, List.getElem?_cons_succ]; rfl
        focus
          refine GOps.r rfl rfl rfl rfl (grd_extract (v := ?_) rfl rfl ?_) ?_
          rotate_left 1
          · simp only [List.getElem?_toArray, List.getElem?_cons_zero, List.getElem?_cons_succ]; rfl
        refine GOps.r rfl rfl rfl rfl (grd_assign rfl rfl) ?_
        refine GOps.r rfl rfl rfl rfl (grd_assign rfl rfl) ?_
        refine GOps.nil ?_
        refine GWP.seq ?_
        refine GWP.block ?_
        refine GWP.seq ?_
        refine GWP.region ?_
        refine GOps.r rfl rfl rfl rfl (grd_move rfl rfl) ?_
        refine GOps.r rfl rfl rfl rfl (grd_not rfl rfl) ?_
        refine GOps.r rfl rfl rfl rfl (grd_assign rfl rfl) ?_
        refine GOps.nil ?_
        refine GWP.cond_f rfl ?_ ?_
        · simp; done
        refine GWP.seq ?_
        refine GWP.region ?_
        refine GOps.r rfl rfl rfl rfl (grd_move rfl rfl) ?_
        refine GOps.r rfl rfl rfl rfl (grd_len tab_is rfl rfl rfl rfl rfl) ?_
        refine GOps.r rfl rfl rfl rfl (grd_eql rfl rfl rfl) ?_
        refine GOps.r rfl rfl rfl rfl (grd_assign rfl rfl) ?_
        refine GOps.nil ?_
        refine GWP.cond_t rfl ?_ ?_
        · exact decide_eq_true (by omega)
        refine GWP.seq ?_
        refine GWP.region ?_
        refine GOps.r rfl rfl rfl rfl (grd_assign rfl rfl) ?_
        refine GOps.r rfl rfl rfl rfl (grd_assign rfl rfl) ?_
        refine GOps.nil ?_
        refine GWP.ret ?_
        refine ⟨_, .two (.one rfl) (.one rfl), ?_⟩
        refine ⟨?_, ?_⟩
        · rfl
        · assumption
      | cons k M =>
      simp only
      generalize h1 : RdS.number ⟨M, 0⟩ segTop = r1
      generalize h2 : r1.2.number segTop = r2
      generalize h3 : r2.2.number segTop = r3
      generalize h4 : r3.2.number segTop = r4
      generalize h5 : r4.2.number segTop = r5
      simp only [List.length_cons] at hbl
      have t1 := number_top h1
      have t2 := number_top h2
      have t3 := number_top h3
      have t4 := number_top h4
      have t5 := number_top h5
      refine GCalls.body tab_is Try.func109 rfl Try.results109 Try.ntmps109 (by simp) ?_ ?_
      · first | (intro _ h; cases h; done) | (simp; done) | (simp; omega) | (intro i hi; simp at hi; rcases hi with rfl | rfl <;> omega) | (intro i hi; simp at hi; rcases hi with rfl | rfl | rfl <;> omega)
      focus
        refine GWP.seq ?_
        refine GWP.region ?_
        refine GOps.r rfl rfl rfl rfl (grd_assign rfl rfl) ?_
        refine GOps.r rfl rfl rfl rfl (grd_assign rfl rfl) ?_
        refine GOps.nil ?_
        refine GWP.seq ?_
        refine GWP.region ?_
        refine GOps.r rfl rfl rfl rfl (grd_move rfl rfl) ?_
        refine GOps.w rfl rfl rfl rfl (gop_call rfl Try.call145 rfl ?_ (hcon _ _ _ _ ?_ ?_)) ?_
        · intro _ h; cases h; done
        · assumption
        · omega
        rintro _ Hxc5 ⟨⟨pc1, nc2, cc3, rfl, bc4⟩, xc5⟩
        have xc5l := HExt.len xc5; try simp at xc5l
        have bc4n := BS.len bc4; simp at bc4n; subst bc4n
        refine GOps.r rfl rfl rfl rfl (grd_move rfl rfl) ?_
        focus
          refine GOps.r rfl rfl rfl rfl (grd_extract (v := ?_) rfl rfl ?_) ?_
          rotate_left 1
          · simp only [List.getElem?_toArray, List.getElem?_cons_zero, List.getElem?_cons_succ]; rfl
        focus
          refine GOps.r rfl rfl rfl rfl (grd_extract (v := ?_) rfl rfl ?_) ?_
          rotate_left 1
          · simp only [List.getElem?_toArray, List.getElem?_cons_zero, List.getElem?_cons_succ]; rfl
        refine GOps.r rfl rfl rfl rfl (grd_assign rfl rfl) ?_
        refine GOps.r rfl rfl rfl rfl (grd_assign rfl rfl) ?_
        refine GOps.nil ?_
        refine GWP.seq ?_
        refine GWP.block ?_
        refine GWP.seq ?_
        refine GWP.region ?_
        refine GOps.r rfl rfl rfl rfl (grd_move rfl rfl) ?_
        refine GOps.r rfl rfl rfl rfl (grd_not rfl rfl) ?_
        refine GOps.r rfl rfl rfl rfl (grd_assign rfl rfl) ?_
        refine GOps.nil ?_
        refine GWP.cond_f rfl ?_ ?_
        · simp; done
        refine GWP.seq ?_
        refine GWP.region ?_
        refine GOps.r rfl rfl rfl rfl (grd_move rfl rfl) ?_
        refine GOps.r rfl rfl rfl rfl (grd_len tab_is rfl rfl rfl rfl rfl) ?_
        refine GOps.r rfl rfl rfl rfl (grd_eql rfl rfl rfl) ?_
        refine GOps.r rfl rfl rfl rfl (grd_assign rfl rfl) ?_
        refine GOps.nil ?_
        refine GWP.cond_f rfl ?_ ?_
        · exact decide_eq_false (by omega)
        refine GWP.seq ?_
        refine GWP.region ?_
        refine GOps.r rfl rfl rfl rfl (grd_move rfl rfl) ?_
        focus
          refine GOps.r rfl rfl rfl rfl (grd_indexBS (q := ?_) (L := ?_) tab_is rfl rfl rfl rfl rfl ?_ ?_ ?_) ?_
          rotate_left 2
          · assumption
          · rfl
          · exact Nat.le_of_ble_eq_true rfl
        focus
          refine GOps.re rfl rfl rfl rfl (grd_loadBSK (n := ?_) (c := ?_) (L := ?_) (u := ?_) tab_is rfl rfl rfl rfl ?_ ?_ ?_) ?_
          rotate_left 4
          · assumption
          · exact Nat.le_of_ble_eq_true rfl
          · simp only [List.getD_cons_zero]; rfl
        refine GOps.r rfl rfl rfl rfl (grd_eql rfl rfl rfl) ?_
        refine GOps.r rfl rfl rfl rfl (grd_move rfl rfl) ?_
        refine GOps.split rfl rfl (fun c6 => ?_) (fun c6 => ?_)
        simp only [beq_true, beq_false, Bool.not_true, Bool.not_false, Bool.not_eq_true', Bool.not_eq_false', decide_eq_true_eq, decide_eq_false_iff_not] at c6
        refine GOps.take rfl rfl ?_ ?_
        · exact beq_iff_eq.2 (decide_eq_true (by assumption))
        refine GOps.r rfl rfl rfl rfl (grd_move rfl rfl) ?_
        refine GOps.take rfl rfl ?_ ?_
        · exact beq_iff_eq.2 (decide_eq_true (by assumption))
        refine GOps.r rfl rfl rfl rfl (grd_len tab_is rfl rfl rfl rfl rfl) ?_
        refine GOps.take rfl rfl ?_ ?_
        · exact beq_iff_eq.2 (decide_eq_true (by assumption))
        refine GOps.r rfl rfl rfl rfl (grd_gtr rfl rfl rfl) ?_
        refine GOps.r rfl rfl rfl rfl (grd_pick_t rfl rfl ?_ rfl) ?_
        · exact decide_eq_true (by assumption)
        refine GOps.r rfl rfl rfl rfl (grd_move rfl rfl) ?_
        refine GOps.split rfl rfl (fun c7 => ?_) (fun c7 => ?_)
        simp only [beq_true, beq_false, Bool.not_true, Bool.not_false, Bool.not_eq_true', Bool.not_eq_false', decide_eq_true_eq, decide_eq_false_iff_not] at c7
        refine GOps.take rfl rfl ?_ ?_
        · exact beq_iff_eq.2 (decide_eq_true (by assumption))
        refine GOps.r rfl rfl rfl rfl (grd_move rfl rfl) ?_
        refine GOps.take rfl rfl ?_ ?_
        · exact beq_iff_eq.2 (decide_eq_true (by assumption))
        refine GOps.r rfl rfl rfl rfl (grd_len tab_is rfl rfl rfl rfl rfl) ?_
        refine GOps.take rfl rfl ?_ ?_
        · exact beq_iff_eq.2 (decide_eq_true (by assumption))
        refine GOps.r rfl rfl rfl rfl (grd_leq rfl rfl rfl) ?_
        refine GOps.r rfl rfl rfl rfl (grd_pick_t rfl rfl ?_ rfl) ?_
        · exact decide_eq_true (by assumption)
        refine GOps.r rfl rfl rfl rfl (grd_assign rfl rfl) ?_
        refine GOps.nil ?_
        refine GWP.cond rfl (fun c8 => ?_) (fun c8 => ?_)
        simp only [beq_true, beq_false, Bool.not_true, Bool.not_false, Bool.not_eq_true', Bool.not_eq_false', decide_eq_true_eq, decide_eq_false_iff_not] at c8
        refine GWP.seq ?_
        refine GWP.region ?_
        refine GOps.r rfl rfl rfl rfl (grd_move rfl rfl) ?_
        focus
          refine gops_bs rfl rfl rfl rfl (grd_slBS (l := ?_) (h := ?_) (m2 := ?_) (L := ?_) (M := ?_) tab_is rfl rfl rfl rfl ?_ ?_ ?_ ?_ ?_ ?_ ?_) ?_
          rotate_left 5
          · assumption
          · refine gbound_const ?_; exact rfl
          · exact rfl
          · exact Nat.le_of_ble_eq_true rfl
          · omega
          · simp; rfl
          · refine Eq.trans (List.take_of_length_le ?_) ?_; rotate_left 1; rfl; (simp; done)
        intro pc9 cc9 c9
        have c9n := BS.len c9
        refine GOps.r rfl rfl rfl rfl (grd_mkI tab_is rfl rfl rfl rfl) ?_
        refine GOps.r rfl rfl rfl rfl (grd_assign rfl rfl) ?_
        refine GOps.r rfl rfl rfl rfl (grd_assign rfl rfl) ?_
        refine GOps.nil ?_
        refine GWP.ret ?_
        refine ⟨_, .two (.one rfl) (.one rfl), ?_⟩
        refine ⟨?_, ?_⟩
        · rw [if_pos ⟨by omega, by omega, by omega⟩]; exact ⟨_, _, _, rfl, by assumption⟩
        · assumption
        simp only [beq_true, beq_false, Bool.not_true, Bool.not_false, Bool.not_eq_true', Bool.not_eq_false', decide_eq_true_eq, decide_eq_false_iff_not] at c8
        refine GWP.skip ?_
        refine GWP.seq ?_
        refine GWP.region ?_
        focus
          refine GOps.w1 rfl rfl rfl rfl (gop_alloc' (id := ?_) ?_ tab_is rfl rfl ?_) ?_
          rotate_left 1
          · rfl
          · decide
        refine GOps.nil ?_
        refine GWP.seq ?_
        refine GWP.region ?_
        refine GOps.r rfl rfl rfl rfl (grd_move rfl rfl) ?_
        focus
          refine gops_bs rfl rfl rfl rfl (grd_slBS (l := ?_) (h := ?_) (m2 := ?_) (L := ?_) (M := ?_) tab_is rfl rfl rfl rfl ?_ ?_ ?_ ?_ ?_ ?_ ?_) ?_
          rotate_left 5
          focus
            refine BS.ext (by assumption) ?_
            refine HExt.push ?_
            · exact HExt.refl _ _
          · refine gbound_const ?_; exact rfl
          · exact rfl
          · exact Nat.le_of_ble_eq_true rfl
          · omega
          · simp; rfl
          · refine Eq.trans (List.take_of_length_le ?_) ?_; rotate_left 1; rfl; (simp; done)
        intro pc10 cc10 c10
        have c10n := BS.len c10
        focus
          refine GOps.w rfl rfl rfl rfl (gop_call rfl Try.call63 rfl ?_ (g_vopen _ _ _ _ ?_ ?_ ?_)) ?_
          · intro _ h; cases h; done
          rotate_left 1
          · assumption
          · omega
        rintro _ Hxc16 ⟨⟨gc11, pc12, cc13, rfl, lc14, rc15⟩, xc16⟩
        simp at lc14
        have xc16l := HExt.len xc16; try simp at xc16l
        have rc15g := RG.hg rc15; unfold rdBlk at rc15g
        refine GOps.r rfl rfl rfl rfl (grd_assign rfl rfl) ?_
        refine GOps.nil ?_
        refine GWP.seq ?_
        refine GWP.seq ?_
        refine GWP.region ?_
        refine GOps.r rfl rfl rfl rfl (grd_move rfl rfl) ?_
        refine GOps.nil ?_
        refine GWP.block ?_
        refine GWP.loopN 6 ?_
        refine GRounds.step ?_
        refine GWP.seq ?_
        refine GWP.region ?_
        refine GOps.r rfl rfl rfl rfl (grd_lss rfl rfl rfl) ?_
        refine GOps.nil ?_
        refine GWP.seq ?_
        refine GWP.cond_t rfl ?_ ?_
        · exact decide_eq_true (by omega)
        refine GWP.skip ?_
        refine GWP.seq ?_
        refine GWP.block ?_
        refine GWP.seq ?_
        refine GWP.region ?_
        refine GOps.r rfl rfl rfl rfl (grd_move rfl rfl) ?_
        refine GOps.r rfl rfl rfl rfl (grd_assign rfl rfl) ?_
        refine GOps.nil ?_
        refine GWP.region ?_
        refine GOps.r rfl rfl rfl rfl (grd_move rfl rfl) ?_
        refine GOps.r rfl rfl rfl rfl (grd_move rfl rfl) ?_
        focus
          refine GOps.w rfl rfl rfl rfl (gop_call rfl Try.call123 rfl ?_ (g_num _ _ h1 _ _ ?_ ?_ ?_)) ?_
          · simp [Ctx.may]; omega
          rotate_left 2
          · assumption
        rintro _ Hxc21 ⟨rfl, ⟨pc17, cc18, rc19⟩, kc20, xc21⟩
        have xc21l := HExt.len xc21; try simp at xc21l
        have rc19g := RG.hg rc19; unfold rdBlk at rc19g
        refine GOps.r rfl rfl rfl rfl (grd_conv_in tab_is rfl rfl rfl rfl rfl ?_) ?_
        · refine wrap_i64_in ?_; omega
        refine GOps.r rfl rfl rfl rfl (grd_indexAddrA1 tab_is rfl rfl rfl rfl rfl ?_) ?_
        · simp; done
        focus
          refine GOps.s rfl rfl rfl (gop_store1 (b := ?_) tab_is rfl rfl rfl rfl rfl rfl ?_ ?_ ?_ ?_) ?_
          rotate_left 1
          refine (HExt.eq (by assumption) _ ?_ ?_).trans ?_
          · omega
          · simp; omega
          refine (HExt.eq (by assumption) _ ?_ ?_).trans ?_
          · simp; done
          · intro h; cases h; done
          · exact Hp.at_push_eq
          · rfl
          · decide
          · exact .inr (by omega)
        refine GOps.nil ?_
        refine GWP.region ?_
        refine GOps.r rfl rfl rfl rfl (grd_add64 rfl rfl rfl ?_) ?_
        · omega
        refine GOps.r rfl rfl rfl rfl (grd_move rfl rfl) ?_
        refine GOps.nil ?_
        refine GRounds.step ?_
        refine GWP.seq ?_
        refine GWP.region ?_
        refine GOps.r rfl rfl rfl rfl (grd_lss rfl rfl rfl) ?_
        refine GOps.nil ?_
        refine GWP.seq ?_
        refine GWP.cond_t rfl ?_ ?_
        · exact decide_eq_true (by omega)
        refine GWP.skip ?_
        refine GWP.seq ?_
        refine GWP.block ?_
        refine GWP.seq ?_
        refine GWP.region ?_
        refine GOps.r rfl rfl rfl rfl (grd_move rfl rfl) ?_
        refine GOps.r rfl rfl rfl rfl (grd_assign rfl rfl) ?_
        refine GOps.nil ?_
        refine GWP.region ?_
        refine GOps.r rfl rfl rfl rfl (grd_move rfl rfl) ?_
        refine GOps.r rfl rfl rfl rfl (grd_move rfl rfl) ?_
        focus
          refine GOps.w rfl rfl rfl rfl (gop_call rfl Try.call123 rfl ?_ (g_num _ _ h2 _ _ ?_ ?_ ?_)) ?_
          · simp [Ctx.may]; omega
          rotate_left 2
          refine rg_ne (b := ?_) ?_ ?_ ?_ ?_
          rotate_left 1
          focus
            · assumption
          refine (HExt.eq (by assumption) _ ?_ ?_).trans ?_
          · omega
          · simp; omega
          refine (HExt.eq (by assumption) _ ?_ ?_).trans ?_
          · simp; done
          · intro h; cases h; done
          · exact Hp.at_push_eq
          · omega
          · rfl
        rintro _ Hxc26 ⟨rfl, ⟨pc22, cc23, rc24⟩, kc25, xc26⟩
        have xc26l := HExt.len xc26; try simp at xc26l
        have rc24g := RG.hg rc24; unfold rdBlk at rc24g
        refine GOps.r rfl rfl rfl rfl (grd_conv_in tab_is rfl rfl rfl rfl rfl ?_) ?_
        · refine wrap_i64_in ?_; omega
        refine GOps.r rfl rfl rfl rfl (grd_indexAddrA1 tab_is rfl rfl rfl rfl rfl ?_) ?_
        · simp; done
        focus
          refine GOps.s rfl rfl rfl (gop_store1 (b := ?_) tab_is rfl rfl rfl rfl rfl rfl ?_ ?_ ?_ ?_) ?_
          rotate_left 1
          refine (HExt.eq (by assumption) _ ?_ ?_).trans ?_
          · simp; omega
          · simp; omega
          refine Hp.at_put_eq ?_
          · omega
          · rfl
          · exact Nat.le_of_ble_eq_true rfl
          · exact .inr (by omega)
        refine GOps.nil ?_
        refine GWP.region ?_
        refine GOps.r rfl rfl rfl rfl (grd_add64 rfl rfl rfl ?_) ?_
        · omega
        refine GOps.r rfl rfl rfl rfl (grd_move rfl rfl) ?_
        refine GOps.nil ?_
        refine GRounds.step ?_
        refine GWP.seq ?_
        refine GWP.region ?_
        refine GOps.r rfl rfl rfl rfl (grd_lss rfl rfl rfl) ?_
        refine GOps.nil ?_
        refine GWP.seq ?_
        refine GWP.cond_t rfl ?_ ?_
        · exact decide_eq_true (by omega)
        refine GWP.skip ?_
        refine GWP.seq ?_
        refine GWP.block ?_
        refine GWP.seq ?_
        refine GWP.region ?_
        refine GOps.r rfl rfl rfl rfl (grd_move rfl rfl) ?_
        refine GOps.r rfl rfl rfl rfl (grd_assign rfl rfl) ?_
        refine GOps.nil ?_
        refine GWP.region ?_
        refine GOps.r rfl rfl rfl rfl (grd_move rfl rfl) ?_
        refine GOps.r rfl rfl rfl rfl (grd_move rfl rfl) ?_
        focus
          refine GOps.w rfl rfl rfl rfl (gop_call rfl Try.call123 rfl ?_ (g_num _ _ h3 _ _ ?_ ?_ ?_)) ?_
          · simp [Ctx.may]; omega
          rotate_left 2
          refine rg_ne (b := ?_) ?_ ?_ ?_ ?_
          rotate_left 1
          focus
            · assumption
          refine (HExt.eq (by assumption) _ ?_ ?_).trans ?_
          · simp; omega
          · simp; omega
          refine Hp.at_put_eq ?_
          · omega
          · omega
          · rfl
        rintro _ Hxc31 ⟨rfl, ⟨pc27, cc28, rc29⟩, kc30, xc31⟩
        have xc31l := HExt.len xc31; try simp at xc31l
        have rc29g := RG.hg rc29; unfold rdBlk at rc29g
        refine GOps.r rfl rfl rfl rfl (grd_conv_in tab_is rfl rfl rfl rfl rfl ?_) ?_
        · refine wrap_i64_in ?_; omega
        refine GOps.r rfl rfl rfl rfl (grd_indexAddrA1 tab_is rfl rfl rfl rfl rfl ?_) ?_
        · simp; done
        focus
          refine GOps.s rfl rfl rfl (gop_store1 (b := ?_) tab_is rfl rfl rfl rfl rfl rfl ?_ ?_ ?_ ?_) ?_
          rotate_left 1
          refine (HExt.eq (by assumption) _ ?_ ?_).trans ?_
          · simp; omega
          · simp; omega
          refine Hp.at_put_eq ?_
          · omega
          · rfl
          · exact Nat.le_of_ble_eq_true rfl
          · exact .inr (by omega)
        refine GOps.nil ?_
        refine GWP.region ?_
        refine GOps.r rfl rfl rfl rfl (grd_add64 rfl rfl rfl ?_) ?_
        · omega
        refine GOps.r rfl rfl rfl rfl (grd_move rfl rfl) ?_
        refine GOps.nil ?_
        refine GRounds.step ?_
        refine GWP.seq ?_
        refine GWP.region ?_
        refine GOps.r rfl rfl rfl rfl (grd_lss rfl rfl rfl) ?_
        refine GOps.nil ?_
        refine GWP.seq ?_
        refine GWP.cond_t rfl ?_ ?_
        · exact decide_eq_true (by omega)
        refine GWP.skip ?_
        refine GWP.seq ?_
        refine GWP.block ?_
        refine GWP.seq ?_
        refine GWP.region ?_
        refine GOps.r rfl rfl rfl rfl (grd_move rfl rfl) ?_
        refine GOps.r rfl rfl rfl rfl (grd_assign rfl rfl) ?_
        refine GOps.nil ?_
        refine GWP.region ?_
        refine GOps.r rfl rfl rfl rfl (grd_move rfl rfl) ?_
        refine GOps.r rfl rfl rfl rfl (grd_move rfl rfl) ?_
        focus
          refine GOps.w rfl rfl rfl rfl (gop_call rfl Try.call123 rfl ?_ (g_num _ _ h4 _ _ ?_ ?_ ?_)) ?_
          · simp [Ctx.may]; omega
          rotate_left 2
          refine rg_ne (b := ?_) ?_ ?_ ?_ ?_
          rotate_left 1
          focus
            · assumption
          refine (HExt.eq (by assumption) _ ?_ ?_).trans ?_
          · simp; omega
          · simp; omega
          refine Hp.at_put_eq ?_
          · omega
          · omega
          · rfl
        rintro _ Hxc36 ⟨rfl, ⟨pc32, cc33, rc34⟩, kc35, xc36⟩
        have xc36l := HExt.len xc36; try simp at xc36l
        have rc34g := RG.hg rc34; unfold rdBlk at rc34g
        refine GOps.r rfl rfl rfl rfl (grd_conv_in tab_is rfl rfl rfl rfl rfl ?_) ?_
        · refine wrap_i64_in ?_; omega
        refine GOps.r rfl rfl rfl rfl (grd_indexAddrA1 tab_is rfl rfl rfl rfl rfl ?_) ?_
        · simp; done
        focus
          refine GOps.s rfl rfl rfl (gop_store1 (b := ?_) tab_is rfl rfl rfl rfl rfl rfl ?_ ?_ ?_ ?_) ?_
          rotate_left 1
          refine (HExt.eq (by assumption) _ ?_ ?_).trans ?_
          · simp; omega
          · simp; omega
          refine Hp.at_put_eq ?_
          · omega
          · rfl
          · exact Nat.le_of_ble_eq_true rfl
          · exact .inr (by omega)
        refine GOps.nil ?_
        refine GWP.region ?_
        refine GOps.r rfl rfl rfl rfl (grd_add64 rfl rfl rfl ?_) ?_
        · omega
        refine GOps.r rfl rfl rfl rfl (grd_move rfl rfl) ?_
        refine GOps.nil ?_
        refine GRounds.step ?_
        refine GWP.seq ?_
        refine GWP.region ?_
        refine GOps.r rfl rfl rfl rfl (grd_lss rfl rfl rfl) ?_
        refine GOps.nil ?_
        refine GWP.seq ?_
        refine GWP.cond_t rfl ?_ ?_
        · exact decide_eq_true (by omega)
        refine GWP.skip ?_
        refine GWP.seq ?_
        refine GWP.block ?_
        refine GWP.seq ?_
        refine GWP.region ?_
        refine GOps.r rfl rfl rfl rfl (grd_move rfl rfl) ?_
        refine GOps.r rfl rfl rfl rfl (grd_assign rfl rfl) ?_
        refine GOps.nil ?_
        refine GWP.region ?_
        refine GOps.r rfl rfl rfl rfl (grd_move rfl rfl) ?_
        refine GOps.r rfl rfl rfl rfl (grd_move rfl rfl) ?_
        focus
          refine GOps.w rfl rfl rfl rfl (gop_call rfl Try.call123 rfl ?_ (g_num _ _ h5 _ _ ?_ ?_ ?_)) ?_
          · simp [Ctx.may]; omega
          rotate_left 2
          refine rg_ne (b := ?_) ?_ ?_ ?_ ?_
          rotate_left 1
          focus
            · assumption
          refine (HExt.eq (by assumption) _ ?_ ?_).trans ?_
          · simp; omega
          · simp; omega
          refine Hp.at_put_eq ?_
          · omega
          · omega
          · rfl
        rintro _ Hxc41 ⟨rfl, ⟨pc37, cc38, rc39⟩, kc40, xc41⟩
        have xc41l := HExt.len xc41; try simp at xc41l
        have rc39g := RG.hg rc39; unfold rdBlk at rc39g
        refine GOps.r rfl rfl rfl rfl (grd_conv_in tab_is rfl rfl rfl rfl rfl ?_) ?_
        · refine wrap_i64_in ?_; omega
        refine GOps.r rfl rfl rfl rfl (grd_indexAddrA1 tab_is rfl rfl rfl rfl rfl ?_) ?_
        · simp; done
        focus
          refine GOps.s rfl rfl rfl (gop_store1 (b := ?_) tab_is rfl rfl rfl rfl rfl rfl ?_ ?_ ?_ ?_) ?_
          rotate_left 1
          refine (HExt.eq (by assumption) _ ?_ ?_).trans ?_
          · simp; omega
          · simp; omega
          refine Hp.at_put_eq ?_
          · omega
          · rfl
          · exact Nat.le_of_ble_eq_true rfl
          · exact .inr (by omega)
        refine GOps.nil ?_
        refine GWP.region ?_
        refine GOps.r rfl rfl rfl rfl (grd_add64 rfl rfl rfl ?_) ?_
        · omega
        refine GOps.r rfl rfl rfl rfl (grd_move rfl rfl) ?_
        refine GOps.nil ?_
        refine GRounds.step ?_
        refine GWP.seq ?_
        refine GWP.region ?_
        refine GOps.r rfl rfl rfl rfl (grd_lss rfl rfl rfl) ?_
        refine GOps.nil ?_
        refine GWP.seq ?_
        refine GWP.cond_f rfl ?_ ?_
        · exact decide_eq_false (by omega)
        refine GWP.exit ?_
        refine GWP.seq ?_
        refine GWP.block ?_
        refine GWP.seq ?_
        refine GWP.region ?_
        refine GOps.r rfl rfl rfl rfl (grd_move rfl rfl) ?_
        focus
          refine GOps.w1 rfl rfl rfl rfl (gop_call rfl Try.call67 rfl ?_ (g_end _ _ ?_ ?_ ?_ ?_)) ?_
          · intro _ h; cases h; done
          rotate_left 3
          refine rg_ne (b := ?_) ?_ ?_ ?_ ?_
          rotate_left 1
          focus
            · assumption
          refine (HExt.eq (by assumption) _ ?_ ?_).trans ?_
          · simp; omega
          · simp; omega
          refine Hp.at_put_eq ?_
          · omega
          · omega
          · rfl
        refine GOps.r rfl rfl rfl rfl (grd_neq rfl rfl rfl) ?_
        refine GOps.r rfl rfl rfl rfl (grd_assign rfl rfl) ?_
        refine GOps.nil ?_
        refine GWP.cond rfl (fun c42 => ?_) (fun c42 => ?_)
        simp only [beq_true, beq_false, Bool.not_true, Bool.not_false, Bool.not_eq_true', Bool.not_eq_false', decide_eq_true_eq, decide_eq_false_iff_not] at c42
        refine GWP.skip ?_
        refine GWP.seq ?_
        refine GWP.region ?_
        refine GOps.r rfl rfl rfl rfl (grd_assign rfl rfl) ?_
        refine GOps.r rfl rfl rfl rfl (grd_assign rfl rfl) ?_
        refine GOps.nil ?_
        refine GWP.ret ?_
        refine ⟨_, .two (.one rfl) (.one rfl), ?_⟩
        refine ⟨?_, ?_⟩
        · rw [if_neg (by omega), segN, if_pos (by omega)]; rfl
        refine HExt.put ?_ ?_
        refine HExt.tr ?_ (by assumption) ?_
        refine HExt.put ?_ ?_
        refine HExt.tr ?_ (by assumption) ?_
        refine HExt.put ?_ ?_
        refine HExt.tr ?_ (by assumption) ?_
        refine HExt.put ?_ ?_
        refine HExt.tr ?_ (by assumption) ?_
        refine HExt.put ?_ ?_
        refine HExt.tr ?_ (by assumption) ?_
        refine HExt.tr ?_ (by assumption) ?_
        refine HExt.push ?_
        · assumption
        · intro _ h; cases h; done
        · simp; omega
        · exact .inr (by omega)
        · simp; omega
        · exact .inr (by omega)
        · simp; omega
        · exact .inr (by omega)
        · simp; omega
        · exact .inr (by omega)
        · simp; omega
        · exact .inr (by omega)
        simp only [beq_true, beq_false, Bool.not_true, Bool.not_false, Bool.not_eq_true', Bool.not_eq_false', decide_eq_true_eq, decide_eq_false_iff_not] at c42
        refine GWP.seq ?_
        refine GWP.region ?_
        refine GOps.r rfl rfl rfl rfl (grd_move rfl rfl) ?_
        focus
          refine GOps.r rfl rfl rfl rfl (grd_indexBS (q := ?_) (L := ?_) tab_is rfl rfl rfl rfl rfl ?_ ?_ ?_) ?_
          rotate_left 2
          focus
            refine BS.ext (by assumption) ?_
            refine HExt.put ?_ ?_
            refine HExt.tr ?_ (by assumption) ?_
            refine HExt.put ?_ ?_
            refine HExt.tr ?_ (by assumption) ?_
            refine HExt.put ?_ ?_
            refine HExt.tr ?_ (by assumption) ?_
            refine HExt.put ?_ ?_
            refine HExt.tr ?_ (by assumption) ?_
            refine HExt.put ?_ ?_
            refine HExt.tr ?_ (by assumption) ?_
            refine HExt.tr ?_ (by assumption) ?_
            refine HExt.push ?_
            · exact HExt.refl _ _
            · intro _ h; cases h; done
            · simp; omega
            · exact .inr (by omega)
            · simp; omega
            · exact .inr (by omega)
            · simp; omega
            · exact .inr (by omega)
            · simp; omega
            · exact .inr (by omega)
            · simp; omega
            · exact .inr (by omega)
          · rfl
          · exact Nat.le_of_ble_eq_true rfl
        focus
          refine GOps.re rfl rfl rfl rfl (grd_loadBSK (n := ?_) (c := ?_) (L := ?_) (u := ?_) tab_is rfl rfl rfl rfl ?_ ?_ ?_) ?_
          rotate_left 4
          focus
            refine BS.ext (by assumption) ?_
            refine HExt.put ?_ ?_
            refine HExt.tr ?_ (by assumption) ?_
            refine HExt.put ?_ ?_
            refine HExt.tr ?_ (by assumption) ?_
            refine HExt.put ?_ ?_
            refine HExt.tr ?_ (by assumption) ?_
            refine HExt.put ?_ ?_
            refine HExt.tr ?_ (by assumption) ?_
            refine HExt.put ?_ ?_
            refine HExt.tr ?_ (by assumption) ?_
            refine HExt.tr ?_ (by assumption) ?_
            refine HExt.push ?_
            · exact HExt.refl _ _
            · intro _ h; cases h; done
            · simp; omega
            · exact .inr (by omega)
            · simp; omega
            · exact .inr (by omega)
            · simp; omega
            · exact .inr (by omega)
            · simp; omega
            · exact .inr (by omega)
            · simp; omega
            · exact .inr (by omega)
          · exact Nat.le_of_ble_eq_true rfl
          · simp only [List.getD_cons_zero]; rfl
        refine GOps.r rfl rfl rfl rfl (grd_eql rfl rfl rfl) ?_
        refine GOps.r rfl rfl rfl rfl (grd_assign rfl rfl) ?_
        refine GOps.nil ?_
        refine GWP.cond_f rfl ?_ ?_
        · exact decide_eq_false (by omega)
        refine GWP.seq ?_
        refine GWP.region ?_
        refine GOps.r rfl rfl rfl rfl (grd_move rfl rfl) ?_
        focus
          refine GOps.r rfl rfl rfl rfl (grd_indexBS (q := ?_) (L := ?_) tab_is rfl rfl rfl rfl rfl ?_ ?_ ?_) ?_
          rotate_left 2
          focus
            refine BS.ext (by assumption) ?_
            refine HExt.put ?_ ?_
            refine HExt.tr ?_ (by assumption) ?_
            refine HExt.put ?_ ?_
            refine HExt.tr ?_ (by assumption) ?_
            refine HExt.put ?_ ?_
            refine HExt.tr ?_ (by assumption) ?_
            refine HExt.put ?_ ?_
            refine HExt.tr ?_ (by assumption) ?_
            refine HExt.put ?_ ?_
            refine HExt.tr ?_ (by assumption) ?_
            refine HExt.tr ?_ (by assumption) ?_
            refine HExt.push ?_
            · exact HExt.refl _ _
            · intro _ h; cases h; done
            · simp; omega
            · exact .inr (by omega)
            · simp; omega
            · exact .inr (by omega)
            · simp; omega
            · exact .inr (by omega)
            · simp; omega
            · exact .inr (by omega)
            · simp; omega
            · exact .inr (by omega)
          · rfl
          · exact Nat.le_of_ble_eq_true rfl
        focus
          refine GOps.re rfl rfl rfl rfl (grd_loadBSK (n := ?_) (c := ?_) (L := ?_) (u := ?_) tab_is rfl rfl rfl rfl ?_ ?_ ?_) ?_
          rotate_left 4
          focus
            refine BS.ext (by assumption) ?_
            refine HExt.put ?_ ?_
            refine HExt.tr ?_ (by assumption) ?_
            refine HExt.put ?_ ?_
            refine HExt.tr ?_ (by assumption) ?_
            refine HExt.put ?_ ?_
            refine HExt.tr ?_ (by assumption) ?_
            refine HExt.put ?_ ?_
            refine HExt.tr ?_ (by assumption) ?_
            refine HExt.put ?_ ?_
            refine HExt.tr ?_ (by assumption) ?_
            refine HExt.tr ?_ (by assumption) ?_
            refine HExt.push ?_
            · exact HExt.refl _ _
            · intro _ h; cases h; done
            · simp; omega
            · exact .inr (by omega)
            · simp; omega
            · exact .inr (by omega)
            · simp; omega
            · exact .inr (by omega)
            · simp; omega
            · exact .inr (by omega)
            · simp; omega
            · exact .inr (by omega)
          · exact Nat.le_of_ble_eq_true rfl
          · simp only [List.getD_cons_zero]; rfl
        refine GOps.r rfl rfl rfl rfl (grd_eql rfl rfl rfl) ?_
        refine GOps.r rfl rfl rfl rfl (grd_move rfl rfl) ?_
        refine GOps.no rfl ?_ rfl rfl ?_
        · simp; omega
        refine GOps.no rfl ?_ rfl rfl ?_
        · simp; omega
        refine GOps.no rfl ?_ rfl rfl ?_
        · simp; omega
        refine GOps.r rfl rfl rfl rfl (grd_pick_f rfl rfl ?_ rfl) ?_
        · exact decide_eq_false (by omega)
        refine GOps.r rfl rfl rfl rfl (grd_assign rfl rfl) ?_
        refine GOps.nil ?_
        refine GWP.cond_f rfl ?_ ?_
        · with_reducible rfl
        refine GWP.skip ?_
        refine GWP.seq ?_
        refine GWP.region ?_
        refine GOps.r rfl rfl rfl rfl (grd_assign rfl rfl) ?_
        refine GOps.r rfl rfl rfl rfl (grd_assign rfl rfl) ?_
        refine GOps.nil ?_
        refine GWP.ret ?_
        refine ⟨_, .two (.one rfl) (.one rfl), ?_⟩
        refine ⟨?_, ?_⟩
        · rw [if_neg (by omega), segN, if_neg (by omega), if_neg (by omega), if_neg (by omega)]; rfl
        refine HExt.put ?_ ?_
        refine HExt.tr ?_ (by assumption) ?_
        refine HExt.put ?_ ?_
        refine HExt.tr ?_ (by assumption) ?_
        refine HExt.put ?_ ?_
        refine HExt.tr ?_ (by assumption) ?_
        refine HExt.put ?_ ?_
        refine HExt.tr ?_ (by assumption) ?_
        refine HExt.put ?_ ?_
        refine HExt.tr ?_ (by assumption) ?_
        refine HExt.tr ?_ (by assumption) ?_
        refine HExt.push ?_
        · assumption
        · intro _ h; cases h; done
        · simp; omega
        · exact .inr (by omega)
        · simp; omega
        · exact .inr (by omega)
        · simp; omega
        · exact .inr (by omega)
        · simp; omega
        · exact .inr (by omega)
        · simp; omega
        · exact .inr (by omega)
        simp only [beq_true, beq_false, Bool.not_true, Bool.not_false, Bool.not_eq_true', Bool.not_eq_false', decide_eq_true_eq, decide_eq_false_iff_not] at c7
        refine GOps.no rfl ?_ rfl rfl ?_
        · exact beq_eq_false_iff_ne.2 (by rw [decide_eq_false (by assumption)]; decide)
        refine GOps.no rfl ?_ rfl rfl ?_
        · exact beq_eq_false_iff_ne.2 (by rw [decide_eq_false (by assumption)]; decide)
        refine GOps.no rfl ?_ rfl rfl ?_
        · exact beq_eq_false_iff_ne.2 (by rw [decide_eq_false (by assumption)]; decide)
        refine GOps.r rfl rfl rfl rfl (grd_pick_f rfl rfl ?_ rfl) ?_
        · exact decide_eq_false (by assumption)
        refine GOps.r rfl rfl rfl rfl (grd_assign rfl rfl) ?_
        refine GOps.nil ?_
        refine GWP.cond_f rfl ?_ ?_
        · with_reducible rfl
        refine GWP.skip ?_
        refine GWP.seq ?_
        refine GWP.region ?_
        focus
          refine GOps.w1 rfl rfl rfl rfl (gop_alloc' (id := ?_) ?_ tab_is rfl rfl ?_) ?_
          rotate_left 1
          · rfl
          · decide
        refine GOps.nil ?_
        refine GWP.seq ?_
        refine GWP.region ?_
        refine GOps.r rfl rfl rfl rfl (grd_move rfl rfl) ?_
        focus
          refine gops_bs rfl rfl rfl rfl (grd_slBS (l := ?_) (h := ?_) (m2 := ?_) (L := ?_) (M := ?_) tab_is rfl rfl rfl rfl ?_ ?_ ?_ ?_ ?_ ?_ ?_) ?_
          rotate_left 5
          focus
            refine BS.ext (by assumption) ?_
            refine HExt.push ?_
            · exact HExt.refl _ _
          · refine gbound_const ?_; exact rfl
          · exact rfl
          · exact Nat.le_of_ble_eq_true rfl
          · omega
          · simp; rfl
          · refine Eq.trans (List.take_of_length_le ?_) ?_; rotate_left 1; rfl; (simp; done)
        intro pc43 cc43 c43
        have c43n := BS.len c43
        focus
          refine GOps.w rfl rfl rfl rfl (gop_call rfl Try.call63 rfl ?_ (g_vopen _ _ _ _ ?_ ?_ ?_)) ?_
          · intro _ h; cases h; done
          rotate_left 1
          · assumption
          · omega
        rintro _ Hxc49 ⟨⟨gc44, pc45, cc46, rfl, lc47, rc48⟩, xc49⟩
        simp at lc47
        have xc49l := HExt.len xc49; try simp at xc49l
        have rc48g := RG.hg rc48; unfold rdBlk at rc48g
        refine GOps.r rfl rfl rfl rfl (grd_assign rfl rfl) ?_
        refine GOps.nil ?_
        refine GWP.seq ?_
        refine GWP.seq ?_
        refine GWP.region ?_
        refine GOps.r rfl rfl rfl rfl (grd_move rfl rfl) ?_
        refine GOps.nil ?_
        refine GWP.block ?_
        refine GWP.loopN 6 ?_
        refine GRounds.step ?_
        refine GWP.seq ?_
        refine GWP.region ?_
        refine GOps.r rfl rfl rfl rfl (grd_lss rfl rfl rfl) ?_
        refine GOps.nil ?_
        refine GWP.seq ?_
        refine GWP.cond_t rfl ?_ ?_
        · exact decide_eq_true (by omega)
        refine GWP.skip ?_
        refine GWP.seq ?_
        refine GWP.block ?_
        refine GWP.seq ?_
        refine GWP.region ?_
        refine GOps.r rfl rfl rfl rfl (grd_move rfl rfl) ?_
        refine GOps.r rfl rfl rfl rfl (grd_assign rfl rfl) ?_
        refine GOps.nil ?_
        refine GWP.region ?_
        refine GOps.r rfl rfl rfl rfl (grd_move rfl rfl) ?_
        refine GOps.r rfl rfl rfl rfl (grd_move rfl rfl) ?_
        focus
          refine GOps.w rfl rfl rfl rfl (gop_call rfl Try.call123 rfl ?_ (g_num _ _ h1 _ _ ?_ ?_ ?_)) ?_
          · simp [Ctx.may]; omega
          rotate_left 2
          · assumption
        rintro _ Hxc54 ⟨rfl, ⟨pc50, cc51, rc52⟩, kc53, xc54⟩
        have xc54l := HExt.len xc54; try simp at xc54l
        have rc52g := RG.hg rc52; unfold rdBlk at rc52g
        refine GOps.r rfl rfl rfl rfl (grd_conv_in tab_is rfl rfl rfl rfl rfl ?_) ?_
        · refine wrap_i64_in ?_; omega
        refine GOps.r rfl rfl rfl rfl (grd_indexAddrA1 tab_is rfl rfl rfl rfl rfl ?_) ?_
        · simp; done
        focus
          refine GOps.s rfl rfl rfl (gop_store1 (b := ?_) tab_is rfl rfl rfl rfl rfl rfl ?_ ?_ ?_ ?_) ?_
          rotate_left 1
          refine (HExt.eq (by assumption) _ ?_ ?_).trans ?_
          · omega
          · simp; omega
          refine (HExt.eq (by assumption) _ ?_ ?_).trans ?_
          · simp; done
          · intro h; cases h; done
          · exact Hp.at_push_eq
          · rfl
          · decide
          · exact .inr (by omega)
        refine GOps.nil ?_
        refine GWP.region ?_
        refine GOps.r rfl rfl rfl rfl (grd_add64 rfl rfl rfl ?_) ?_
        · omega
        refine GOps.r rfl rfl rfl rfl (grd_move rfl rfl) ?_
        refine GOps.nil ?_
        refine GRounds.step ?_
        refine GWP.seq ?_
        refine GWP.region ?_
        refine GOps.r rfl rfl rfl rfl (grd_lss rfl rfl rfl) ?_
        refine GOps.nil ?_
        refine GWP.seq ?_
        refine GWP.cond_t rfl ?_ ?_
        · exact decide_eq_true (by omega)
        refine GWP.skip ?_
        refine GWP.seq ?_
        refine GWP.block ?_
        refine GWP.seq ?_
        refine GWP.region ?_
        refine GOps.r rfl rfl rfl rfl (grd_move rfl rfl) ?_
        refine GOps.r rfl rfl rfl rfl (grd_assign rfl rfl) ?_
        refine GOps.nil ?_
        refine GWP.region ?_
        refine GOps.r rfl rfl rfl rfl (grd_move rfl rfl) ?_
        refine GOps.r rfl rfl rfl rfl (grd_move rfl rfl) ?_
        focus
          refine GOps.w rfl rfl rfl rfl (gop_call rfl Try.call123 rfl ?_ (g_num _ _ h2 _ _ ?_ ?_ ?_)) ?_
          · simp [Ctx.may]; omega
          rotate_left 2
          refine rg_ne (b := ?_) ?_ ?_ ?_ ?_
          rotate_left 1
          focus
            · assumption
          refine (HExt.eq (by assumption) _ ?_ ?_).trans ?_
          · omega
          · simp; omega
          refine (HExt.eq (by assumption) _ ?_ ?_).trans ?_
          · simp; done
          · intro h; cases h; done
          · exact Hp.at_push_eq
          · omega
          · rfl
        rintro _ Hxc59 ⟨rfl, ⟨pc55, cc56, rc57⟩, kc58, xc59⟩
        have xc59l := HExt.len xc59; try simp at xc59l
        have rc57g := RG.hg rc57; unfold rdBlk at rc57g
        refine GOps.r rfl rfl rfl rfl (grd_conv_in tab_is rfl rfl rfl rfl rfl ?_) ?_
        · refine wrap_i64_in ?_; omega
        refine GOps.r rfl rfl rfl rfl (grd_indexAddrA1 tab_is rfl rfl rfl rfl rfl ?_) ?_
        · simp; done
        focus
          refine GOps.s rfl rfl rfl (gop_store1 (b := ?_) tab_is rfl rfl rfl rfl rfl rfl ?_ ?_ ?_ ?_) ?_
          rotate_left 1
          refine (HExt.eq (by assumption) _ ?_ ?_).trans ?_
          · simp; omega
          · simp; omega
          refine Hp.at_put_eq ?_
          · omega
          · rfl
          · exact Nat.le_of_ble_eq_true rfl
          · exact .inr (by omega)
        refine GOps.nil ?_
        refine GWP.region ?_
        refine GOps.r rfl rfl rfl rfl (grd_add64 rfl rfl rfl ?_) ?_
        · omega
        refine GOps.r rfl rfl rfl rfl (grd_move rfl rfl) ?_
        refine GOps.nil ?_
        refine GRounds.step ?_
        refine GWP.seq ?_
        refine GWP.region ?_
        refine GOps.r rfl rfl rfl rfl (grd_lss rfl rfl rfl) ?_
        refine GOps.nil ?_
        refine GWP.seq ?_
        refine GWP.cond_t rfl ?_ ?_
        · exact decide_eq_true (by omega)
        refine GWP.skip ?_
        refine GWP.seq ?_
        refine GWP.block ?_
        refine GWP.seq ?_
        refine GWP.region ?_
        refine GOps.r rfl rfl rfl rfl (grd_move rfl rfl) ?_
        refine GOps.r rfl rfl rfl rfl (grd_assign rfl rfl) ?_
        refine GOps.nil ?_
        refine GWP.region ?_
        refine GOps.r rfl rfl rfl rfl (grd_move rfl rfl) ?_
        refine GOps.r rfl rfl rfl rfl (grd_move rfl rfl) ?_
        focus
          refine GOps.w rfl rfl rfl rfl (gop_call rfl Try.call123 rfl ?_ (g_num _ _ h3 _ _ ?_ ?_ ?_)) ?_
          · simp [Ctx.may]; omega
          rotate_left 2
          refine rg_ne (b := ?_) ?_ ?_ ?_ ?_
          rotate_left 1
          focus
            · assumption
          refine (HExt.eq (by assumption) _ ?_ ?_).trans ?_
          · simp; omega
          · simp; omega
          refine Hp.at_put_eq ?_
          · omega
          · omega
          · rfl
        rintro _ Hxc64 ⟨rfl, ⟨pc60, cc61, rc62⟩, kc63, xc64⟩
        have xc64l := HExt.len xc64; try simp at xc64l
        have rc62g := RG.hg rc62; unfold rdBlk at rc62g
        refine GOps.r rfl rfl rfl rfl (grd_conv_in tab_is rfl rfl rfl rfl rfl ?_) ?_
        · refine wrap_i64_in ?_; omega
        refine GOps.r rfl rfl rfl rfl (grd_indexAddrA1 tab_is rfl rfl rfl rfl rfl ?_) ?_
        · simp; done
        focus
          refine GOps.s rfl rfl rfl (gop_store1 (b := ?_) tab_is rfl rfl rfl rfl rfl rfl ?_ ?_ ?_ ?_) ?_
          rotate_left 1
          refine (HExt.eq (by assumption) _ ?_ ?_).trans ?_
          · simp; omega
          · simp; omega
          refine Hp.at_put_eq ?_
          · omega
          · rfl
          · exact Nat.le_of_ble_eq_true rfl
          · exact .inr (by omega)
        refine GOps.nil ?_
        refine GWP.region ?_
        refine GOps.r rfl rfl rfl rfl (grd_add64 rfl rfl rfl ?_) ?_
        · omega
        refine GOps.r rfl rfl rfl rfl (grd_move rfl rfl) ?_
        refine GOps.nil ?_
        refine GRounds.step ?_
        refine GWP.seq ?_
        refine GWP.region ?_
        refine GOps.r rfl rfl rfl rfl (grd_lss rfl rfl rfl) ?_
        refine GOps.nil ?_
        refine GWP.seq ?_
        refine GWP.cond_t rfl ?_ ?_
        · exact decide_eq_true (by omega)
        refine GWP.skip ?_
        refine GWP.seq ?_
        refine GWP.block ?_
        refine GWP.seq ?_
        refine GWP.region ?_
        refine GOps.r rfl rfl rfl rfl (grd_move rfl rfl) ?_
        refine GOps.r rfl rfl rfl rfl (grd_assign rfl rfl) ?_
        refine GOps.nil ?_
        refine GWP.region ?_
        refine GOps.r rfl rfl rfl rfl (grd_move rfl rfl) ?_
        refine GOps.r rfl rfl rfl rfl (grd_move rfl rfl) ?_
        focus
          refine GOps.w rfl rfl rfl rfl (gop_call rfl Try.call123 rfl ?_ (g_num _ _ h4 _ _ ?_ ?_ ?_)) ?_
          · simp [Ctx.may]; omega
          rotate_left 2
          refine rg_ne (b := ?_) ?_ ?_ ?_ ?_
          rotate_left 1
          focus
            · assumption
          refine (HExt.eq (by assumption) _ ?_ ?_).trans ?_
          · simp; omega
          · simp; omega
          refine Hp.at_put_eq ?_
          · omega
          · omega
          · rfl
        rintro _ Hxc69 ⟨rfl, ⟨pc65, cc66, rc67⟩, kc68, xc69⟩
        have xc69l := HExt.len xc69; try simp at xc69l
        have rc67g := RG.hg rc67; unfold rdBlk at rc67g
        refine GOps.r rfl rfl rfl rfl (grd_conv_in tab_is rfl rfl rfl rfl rfl ?_) ?_
        · refine wrap_i64_in ?_; omega
        refine GOps.r rfl rfl rfl rfl (grd_indexAddrA1 tab_is rfl rfl rfl rfl rfl ?_) ?_
        · simp; done
        focus
          refine GOps.s rfl rfl rfl (gop_store1 (b := ?_) tab_is rfl rfl rfl rfl rfl rfl ?_ ?_ ?_ ?_) ?_
          rotate_left 1
          refine (HExt.eq (by assumption) _ ?_ ?_).trans ?_
          · simp; omega
          · simp; omega
          refine Hp.at_put_eq ?_
          · omega
          · rfl
          · exact Nat.le_of_ble_eq_true rfl
          · exact .inr (by omega)
        refine GOps.nil ?_
        refine GWP.region ?_
        refine GOps.r rfl rfl rfl rfl (grd_add64 rfl rfl rfl ?_) ?_
        · omega
        refine GOps.r rfl rfl rfl rfl (grd_move rfl rfl) ?_
        refine GOps.nil ?_
        refine GRounds.step ?_
        refine GWP.seq ?_
        refine GWP.region ?_
        refine GOps.r rfl rfl rfl rfl (grd_lss rfl rfl rfl) ?_
        refine GOps.nil ?_
        refine GWP.seq ?_
        refine GWP.cond_t rfl ?_ ?_
        · exact decide_eq_true (by omega)
        refine GWP.skip ?_
        refine GWP.seq ?_
        refine GWP.block ?_
        refine GWP.seq ?_
        refine GWP.region ?_
        refine GOps.r rfl rfl rfl rfl (grd_move rfl rfl) ?_
        refine GOps.r rfl rfl rfl rfl (grd_assign rfl rfl) ?_
        refine GOps.nil ?_
        refine GWP.region ?_
        refine GOps.r rfl rfl rfl rfl (grd_move rfl rfl) ?_
        refine GOps.r rfl rfl rfl rfl (grd_move rfl rfl) ?_
        focus
          refine GOps.w rfl rfl rfl rfl (gop_call rfl Try.call123 rfl ?_ (g_num _ _ h5 _ _ ?_ ?_ ?_)) ?_
          · simp [Ctx.may]; omega
          rotate_left 2
          refine rg_ne (b := ?_) ?_ ?_ ?_ ?_
          rotate_left 1
          focus
            · assumption
          refine (HExt.eq (by assumption) _ ?_ ?_).trans ?_
          · simp; omega
          · simp; omega
          refine Hp.at_put_eq ?_
          · omega
          · omega
          · rfl
        rintro _ Hxc74 ⟨rfl, ⟨pc70, cc71, rc72⟩, kc73, xc74⟩
        have xc74l := HExt.len xc74; try simp at xc74l
        have rc72g := RG.hg rc72; unfold rdBlk at rc72g
        refine GOps.r rfl rfl rfl rfl (grd_conv_in tab_is rfl rfl rfl rfl rfl ?_) ?_
        · refine wrap_i64_in ?_; omega
        refine GOps.r rfl rfl rfl rfl (grd_indexAddrA1 tab_is rfl rfl rfl rfl rfl ?_) ?_
        · simp; done
        focus
          refine GOps.s rfl rfl rfl (gop_store1 (b := ?_) tab_is rfl rfl rfl rfl rfl rfl ?_ ?_ ?_ ?_) ?_
          rotate_left 1
          refine (HExt.eq (by assumption) _ ?_ ?_).trans ?_
          · simp; omega
          · simp; omega
          refine Hp.at_put_eq ?_
          · omega
          · rfl
          · exact Nat.le_of_ble_eq_true rfl
          · exact .inr (by omega)
        refine GOps.nil ?_
        refine GWP.region ?_
        refine GOps.r rfl rfl rfl rfl (grd_add64 rfl rfl rfl ?_) ?_
        · omega
        refine GOps.r rfl rfl rfl rfl (grd_move rfl rfl) ?_
        refine GOps.nil ?_
        refine GRounds.step ?_
        refine GWP.seq ?_
        refine GWP.region ?_
        refine GOps.r rfl rfl rfl rfl (grd_lss rfl rfl rfl) ?_
        refine GOps.nil ?_
        refine GWP.seq ?_
        refine GWP.cond_f rfl ?_ ?_
        · exact decide_eq_false (by omega)
        refine GWP.exit ?_
        refine GWP.seq ?_
        refine GWP.block ?_
        refine GWP.seq ?_
        refine GWP.region ?_
        refine GOps.r rfl rfl rfl rfl (grd_move rfl rfl) ?_
        focus
          refine GOps.w1 rfl rfl rfl rfl (gop_call rfl Try.call67 rfl ?_ (g_end _ _ ?_ ?_ ?_ ?_)) ?_
          · intro _ h; cases h; done
          rotate_left 3
          refine rg_ne (b := ?_) ?_ ?_ ?_ ?_
          rotate_left 1
          focus
            · assumption
          refine (HExt.eq (by assumption) _ ?_ ?_).trans ?_
          · simp; omega
          · simp; omega
          refine Hp.at_put_eq ?_
          · omega
          · omega
          · rfl
        refine GOps.r rfl rfl rfl rfl (grd_neq rfl rfl rfl) ?_
        refine GOps.r rfl rfl rfl rfl (grd_assign rfl rfl) ?_
        refine GOps.nil ?_
        refine GWP.cond rfl (fun c75 => ?_) (fun c75 => ?_)
        simp only [beq_true, beq_false, Bool.not_true, Bool.not_false, Bool.not_eq_true', Bool.not_eq_false', decide_eq_true_eq, decide_eq_false_iff_not] at c75
        refine GWP.skip ?_
        refine GWP.seq ?_
        refine GWP.region ?_
        refine GOps.r rfl rfl rfl rfl (grd_assign rfl rfl) ?_
        refine GOps.r rfl rfl rfl rfl (grd_assign rfl rfl) ?_
        refine GOps.nil ?_
        refine GWP.ret ?_
        refine ⟨_, .two (.one rfl) (.one rfl), ?_⟩
        refine ⟨?_, ?_⟩
        · rw [if_neg (by omega), segN, if_pos (by omega)]; rfl
        refine HExt.put ?_ ?_
        refine HExt.tr ?_ (by assumption) ?_
        refine HExt.put ?_ ?_
        refine HExt.tr ?_ (by assumption) ?_
        refine HExt.put ?_ ?_
        refine HExt.tr ?_ (by assumption) ?_
        refine HExt.put ?_ ?_
        refine HExt.tr ?_ (by assumption) ?_
        refine HExt.put ?_ ?_
        refine HExt.tr ?_ (by assumption) ?_
        refine HExt.tr ?_ (by assumption) ?_
        refine HExt.push ?_
        · assumption
        · intro _ h; cases h; done
        · simp; omega
        · exact .inr (by omega)
        · simp; omega
        · exact .inr (by omega)
        · simp; omega
        · exact .inr (by omega)
        · simp; omega
        · exact .inr (by omega)
        · simp; omega
        · exact .inr (by omega)
        simp only [beq_true, beq_false, Bool.not_true, Bool.not_false, Bool.not_eq_true', Bool.not_eq_false', decide_eq_true_eq, decide_eq_false_iff_not] at c75
        refine GWP.seq ?_
        refine GWP.region ?_
        refine GOps.r rfl rfl rfl rfl (grd_move rfl rfl) ?_
        focus
          refine GOps.r rfl rfl rfl rfl (grd_indexBS (q := ?_) (L := ?_) tab_is rfl rfl rfl rfl rfl ?_ ?_ ?_) ?_
          rotate_left 2
          focus
            refine BS.ext (by assumption) ?_
            refine HExt.put ?_ ?_
            refine HExt.tr ?_ (by assumption) ?_
            refine HExt.put ?_ ?_
            refine HExt.tr ?_ (by assumption) ?_
            refine HExt.put ?_ ?_
            refine HExt.tr ?_ (by assumption) ?_
            refine HExt.put ?_ ?_
            refine HExt.tr ?_ (by assumption) ?_
            refine HExt.put ?_ ?_
            refine HExt.tr ?_ (by assumption) ?_
            refine HExt.tr ?_ (by assumption) ?_
            refine HExt.push ?_
            · exact HExt.refl _ _
            · intro _ h; cases h; done
            · simp; omega
            · exact .inr (by omega)
            · simp; omega
            · exact .inr (by omega)
            · simp; omega
            · exact .inr (by omega)
            · simp; omega
            · exact .inr (by omega)
            · simp; omega
            · exact .inr (by omega)
          · rfl
          · exact Nat.le_of_ble_eq_true rfl
        focus
          refine GOps.re rfl rfl rfl rfl (grd_loadBSK (n := ?_) (c := ?_) (L := ?_) (u := ?_) tab_is rfl rfl rfl rfl ?_ ?_ ?_) ?_
          rotate_left 4
          focus
            refine BS.ext (by assumption) ?_
            refine HExt.put ?_ ?_
            refine HExt.tr ?_ (by assumption) ?_
            refine HExt.put ?_ ?_
            refine HExt.tr ?_ (by assumption) ?_
            refine HExt.put ?_ ?_
            refine HExt.tr ?_ (by assumption) ?_
            refine HExt.put ?_ ?_
            refine HExt.tr ?_ (by assumption) ?_
            refine HExt.put ?_ ?_
            refine HExt.tr ?_ (by assumption) ?_
            refine HExt.tr ?_ (by assumption) ?_
            refine HExt.push ?_
            · exact HExt.refl _ _
            · intro _ h; cases h; done
            · simp; omega
            · exact .inr (by omega)
            · simp; omega
            · exact .inr (by omega)
            · simp; omega
            · exact .inr (by omega)
            · simp; omega
            · exact .inr (by omega)
            · simp; omega
            · exact .inr (by omega)
          · exact Nat.le_of_ble_eq_true rfl
          · simp only [List.getD_cons_zero]; rfl
        refine GOps.r rfl rfl rfl rfl (grd_eql rfl rfl rfl) ?_
        refine GOps.r rfl rfl rfl rfl (grd_assign rfl rfl) ?_
        refine GOps.nil ?_
        refine GWP.cond_f rfl ?_ ?_
        · exact decide_eq_false (by omega)
        refine GWP.seq ?_
        refine GWP.region ?_
        refine GOps.r rfl rfl rfl rfl (grd_move rfl rfl) ?_
        focus
          refine GOps.r rfl rfl rfl rfl (grd_indexBS (q := ?_) (L := ?_) tab_is rfl rfl rfl rfl rfl ?_ ?_ ?_) ?_
          rotate_left 2
          focus
            refine BS.ext (by assumption) ?_
            refine HExt.put ?_ ?_
            refine HExt.tr ?_ (by assumption) ?_
            refine HExt.put ?_ ?_
            refine HExt.tr ?_ (by assumption) ?_
            refine HExt.put ?_ ?_
            refine HExt.tr ?_ (by assumption) ?_
            refine HExt.put ?_ ?_
            refine HExt.tr ?_ (by assumption) ?_
            refine HExt.put ?_ ?_
            refine HExt.tr ?_ (by assumption) ?_
            refine HExt.tr ?_ (by assumption) ?_
            refine HExt.push ?_
            · exact HExt.refl _ _
            · intro _ h; cases h; done
            · simp; omega
            · exact .inr (by omega)
            · simp; omega
            · exact .inr (by omega)
            · simp; omega
            · exact .inr (by omega)
            · simp; omega
            · exact .inr (by omega)
            · simp; omega
            · exact .inr (by omega)
          · rfl
          · exact Nat.le_of_ble_eq_true rfl
        focus
          refine GOps.re rfl rfl rfl rfl (grd_loadBSK (n := ?_) (c := ?_) (L := ?_) (u := ?_) tab_is rfl rfl rfl rfl ?_ ?_ ?_) ?_
          rotate_left 4
          focus
            refine BS.ext (by assumption) ?_
            refine HExt.put ?_ ?_
            refine HExt.tr ?_ (by assumption) ?_
            refine HExt.put ?_ ?_
            refine HExt.tr ?_ (by assumption) ?_
            refine HExt.put ?_ ?_
            refine HExt.tr ?_ (by assumption) ?_
            refine HExt.put ?_ ?_
            refine HExt.tr ?_ (by assumption) ?_
            refine HExt.put ?_ ?_
            refine HExt.tr ?_ (by assumption) ?_
            refine HExt.tr ?_ (by assumption) ?_
            refine HExt.push ?_
            · exact HExt.refl _ _
            · intro _ h; cases h; done
            · simp; omega
            · exact .inr (by omega)
            · simp; omega
            · exact .inr (by omega)
            · simp; omega
            · exact .inr (by omega)
            · simp; omega
            · exact .inr (by omega)
            · simp; omega
            · exact .inr (by omega)
          · exact Nat.le_of_ble_eq_true rfl
          · simp only [List.getD_cons_zero]; rfl
        refine GOps.r rfl rfl rfl rfl (grd_eql rfl rfl rfl) ?_
        refine GOps.r rfl rfl rfl rfl (grd_move rfl rfl) ?_
        refine GOps.no rfl ?_ rfl rfl ?_
        · simp; omega
        refine GOps.no rfl ?_ rfl rfl ?_
        · simp; omega
        refine GOps.no rfl ?_ rfl rfl ?_
        · simp; omega
        refine GOps.r rfl rfl rfl rfl (grd_pick_f rfl rfl ?_ rfl) ?_
        · exact decide_eq_false (by omega)
        refine GOps.r rfl rfl rfl rfl (grd_assign rfl rfl) ?_
        refine GOps.nil ?_
        refine GWP.cond_f rfl ?_ ?_
        · with_reducible rfl
        refine GWP.skip ?_
        refine GWP.seq ?_
        refine GWP.region ?_
        refine GOps.r rfl rfl rfl rfl (grd_assign rfl rfl) ?_
        refine GOps.r rfl rfl rfl rfl (grd_assign rfl rfl) ?_
        refine GOps.nil ?_
        refine GWP.ret ?_
        refine ⟨_, .two (.one rfl) (.one rfl), ?_⟩
        refine ⟨?_, ?_⟩
        · rw [if_neg (by omega), segN, if_neg (by omega), if_neg (by omega), if_neg (by omega)]; rfl
        refine HExt.put ?_ ?_
        refine HExt.tr ?_ (by assumption) ?_
        refine HExt.put ?_ ?_
        refine HExt.tr ?_ (by assumption) ?_
        refine HExt.put ?_ ?_
        refine HExt.tr ?_ (by assumption) ?_
        refine HExt.put ?_ ?_
        refine HExt.tr ?_ (by assumption) ?_
        refine HExt.put ?_ ?_
        refine HExt.tr ?_ (by assumption) ?_
        refine HExt.tr ?_ (by assumption) ?_
        refine HExt.push ?_
        · assumption
        · intro _ h; cases h; done
        · simp; omega
        · exact .inr (by omega)
        · simp; omega
        · exact .inr (by omega)
        · simp; omega
        · exact .inr (by omega)
        · simp; omega
        · exact .inr (by omega)
        · simp; omega
        · exact .inr (by omega)
        simp only [beq_true, beq_false, Bool.not_true, Bool.not_false, Bool.not_eq_true', Bool.not_eq_false', decide_eq_true_eq, decide_eq_false_iff_not] at c6
        refine GOps.no rfl ?_ rfl rfl ?_
        · exact beq_eq_false_iff_ne.2 (by rw [decide_eq_false (by assumption)]; decide)
        refine GOps.no rfl ?_ rfl rfl ?_
        · exact beq_eq_false_iff_ne.2 (by rw [decide_eq_false (by assumption)]; decide)
        refine GOps.no rfl ?_ rfl rfl ?_
        · exact beq_eq_false_iff_ne.2 (by rw [decide_eq_false (by assumption)]; decide)
        refine GOps.r rfl rfl rfl rfl (grd_pick_f rfl rfl ?_ rfl) ?_
        · exact decide_eq_false (by assumption)
        refine GOps.r rfl rfl rfl rfl (grd_move rfl rfl) ?_
        refine GOps.no rfl ?_ rfl rfl ?_
        · simp; done
        refine GOps.no rfl ?_ rfl rfl ?_
        · simp; done
        refine GOps.no rfl ?_ rfl rfl ?_
        · simp; done
        refine GOps.r rfl rfl rfl rfl (grd_pick_f rfl rfl ?_ rfl) ?_
        · with_reducible rfl
        refine GOps.r rfl rfl rfl rfl (grd_assign rfl rfl) ?_
        refine GOps.nil ?_
        refine GWP.cond_f rfl ?_ ?_
        · with_reducible rfl
        refine GWP.skip ?_
        refine GWP.seq ?_
        refine GWP.region ?_
        focus
          refine GOps.w1 rfl rfl rfl rfl (gop_alloc' (id := ?_) ?_ tab_is rfl rfl ?_) ?_
          rotate_left 1
          · rfl
          · decide
        refine GOps.nil ?_
        refine GWP.seq ?_
        refine GWP.region ?_
        refine GOps.r rfl rfl rfl rfl (grd_move rfl rfl) ?_
        focus
          refine gops_bs rfl rfl rfl rfl (grd_slBS (l := ?_) (h := ?_) (m2 := ?_) (L := ?_) (M := ?_) tab_is rfl rfl rfl rfl ?_ ?_ ?_ ?_ ?_ ?_ ?_) ?_
          rotate_left 5
          focus
            refine BS.ext (by assumption) ?_
            refine HExt.push ?_
            · exact HExt.refl _ _
          · refine gbound_const ?_; exact rfl
          · exact rfl
          · exact Nat.le_of_ble_eq_true rfl
          · omega
          · simp; rfl
          · refine Eq.trans (List.take_of_length_le ?_) ?_; rotate_left 1; rfl; (simp; done)
        intro pc76 cc76 c76
        have c76n := BS.len c76
        focus
          refine GOps.w rfl rfl rfl rfl (gop_call rfl Try.call63 rfl ?_ (g_vopen _ _ _ _ ?_ ?_ ?_)) ?_
          · intro _ h; cases h; done
          rotate_left 1
          · assumption
          · omega
        rintro _ Hxc82 ⟨⟨gc77, pc78, cc79, rfl, lc80, rc81⟩, xc82⟩
        simp at lc80
        have xc82l := HExt.len xc82; try simp at xc82l
        have rc81g := RG.hg rc81; unfold rdBlk at rc81g
        refine GOps.r rfl rfl rfl rfl (grd_assign rfl rfl) ?_
        refine GOps.nil ?_
        refine GWP.seq ?_
        refine GWP.seq ?_
        refine GWP.region ?_
        refine GOps.r rfl rfl rfl rfl (grd_move rfl rfl) ?_
        refine GOps.nil ?_
        refine GWP.block ?_
        refine GWP.loopN 6 ?_
        refine GRounds.step ?_
        refine GWP.seq ?_
        refine GWP.region ?_
        refine GOps.r rfl rfl rfl rfl (grd_lss rfl rfl rfl) ?_
        refine GOps.nil ?_
        refine GWP.seq ?_
        refine GWP.cond_t rfl ?_ ?_
        · exact decide_eq_true (by omega)
        refine GWP.skip ?_
        refine GWP.seq ?_
        refine GWP.block ?_
        refine GWP.seq ?_
        refine GWP.region ?_
        refine GOps.r rfl rfl rfl rfl (grd_move rfl rfl) ?_
        refine GOps.r rfl rfl rfl rfl (grd_assign rfl rfl) ?_
        refine GOps.nil ?_
        refine GWP.region ?_
        refine GOps.r rfl rfl rfl rfl (grd_move rfl rfl) ?_
        refine GOps.r rfl rfl rfl rfl (grd_move rfl rfl) ?_
        focus
          refine GOps.w rfl rfl rfl rfl (gop_call rfl Try.call123 rfl ?_ (g_num _ _ h1 _ _ ?_ ?_ ?_)) ?_
          · simp [Ctx.may]; omega
          rotate_left 2
          · assumption
        rintro _ Hxc87 ⟨rfl, ⟨pc83, cc84, rc85⟩, kc86, xc87⟩
        have xc87l := HExt.len xc87; try simp at xc87l
        have rc85g := RG.hg rc85; unfold rdBlk at rc85g
        refine GOps.r rfl rfl rfl rfl (grd_conv_in tab_is rfl rfl rfl rfl rfl ?_) ?_
        · refine wrap_i64_in ?_; omega
        refine GOps.r rfl rfl rfl rfl (grd_indexAddrA1 tab_is rfl rfl rfl rfl rfl ?_) ?_
        · simp; done
        focus
          refine GOps.s rfl rfl rfl (gop_store1 (b := ?_) tab_is rfl rfl rfl rfl rfl rfl ?_ ?_ ?_ ?_) ?_
          rotate_left 1
          refine (HExt.eq (by assumption) _ ?_ ?_).trans ?_
          · omega
          · simp; omega
          refine (HExt.eq (by assumption) _ ?_ ?_).trans ?_
          · simp; done
          · intro h; cases h; done
          · exact Hp.at_push_eq
          · rfl
          · decide
          · exact .inr (by omega)
        refine GOps.nil ?_
        refine GWP.region ?_
        refine GOps.r rfl rfl rfl rfl (grd_add64 rfl rfl rfl ?_) ?_
        · omega
        refine GOps.r rfl rfl rfl rfl (grd_move rfl rfl) ?_
        refine GOps.nil ?_
        refine GRounds.step ?_
        refine GWP.seq ?_
        refine GWP.region ?_
        refine GOps.r rfl rfl rfl rfl (grd_lss rfl rfl rfl) ?_
        refine GOps.nil ?_
        refine GWP.seq ?_
        refine GWP.cond_t rfl ?_ ?_
        · exact decide_eq_true (by omega)
        refine GWP.skip ?_
        refine GWP.seq ?_
        refine GWP.block ?_
        refine GWP.seq ?_
        refine GWP.region ?_
        refine GOps.r rfl rfl rfl rfl (grd_move rfl rfl) ?_
        refine GOps.r rfl rfl rfl rfl (grd_assign rfl rfl) ?_
        refine GOps.nil ?_
        refine GWP.region ?_
        refine GOps.r rfl rfl rfl rfl (grd_move rfl rfl) ?_
        refine GOps.r rfl rfl rfl rfl (grd_move rfl rfl) ?_
        focus
          refine GOps.w rfl rfl rfl rfl (gop_call rfl Try.call123 rfl ?_ (g_num _ _ h2 _ _ ?_ ?_ ?_)) ?_
          · simp [Ctx.may]; omega
          rotate_left 2
          refine rg_ne (b := ?_) ?_ ?_ ?_ ?_
          rotate_left 1
          focus
            · assumption
          refine (HExt.eq (by assumption) _ ?_ ?_).trans ?_
          · omega
          · simp; omega
          refine (HExt.eq (by assumption) _ ?_ ?_).trans ?_
          · simp; done
          · intro h; cases h; done
          · exact Hp.at_push_eq
          · omega
          · rfl
        rintro _ Hxc92 ⟨rfl, ⟨pc88, cc89, rc90⟩, kc91, xc92⟩
        have xc92l := HExt.len xc92; try simp at xc92l
        have rc90g := RG.hg rc90; unfold rdBlk at rc90g
        refine GOps.r rfl rfl rfl rfl (grd_conv_in tab_is rfl rfl rfl rfl rfl ?_) ?_
        · refine wrap_i64_in ?_; omega
        refine GOps.r rfl rfl rfl rfl (grd_indexAddrA1 tab_is rfl rfl rfl rfl rfl ?_) ?_
        · simp; done
        focus
          refine GOps.s rfl rfl rfl (gop_store1 (b := ?_) tab_is rfl rfl rfl rfl rfl rfl ?_ ?_ ?_ ?_) ?_
          rotate_left 1
          refine (HExt.eq (by assumption) _ ?_ ?_).trans ?_
          · simp; omega
          · simp; omega
          refine Hp.at_put_eq ?_
          · omega
          · rfl
          · exact Nat.le_of_ble_eq_true rfl
          · exact .inr (by omega)
        refine GOps.nil ?_
        refine GWP.region ?_
        refine GOps.r rfl rfl rfl rfl (grd_add64 rfl rfl rfl ?_) ?_
        · omega
        refine GOps.r rfl rfl rfl rfl (grd_move rfl rfl) ?_
        refine GOps.nil ?_
        refine GRounds.step ?_
        refine GWP.seq ?_
        refine GWP.region ?_
        refine GOps.r rfl rfl rfl rfl (grd_lss rfl rfl rfl) ?_
        refine GOps.nil ?_
        refine GWP.seq ?_
        refine GWP.cond_t rfl ?_ ?_
        · exact decide_eq_true (by omega)
        refine GWP.skip ?_
        refine GWP.seq ?_
        refine GWP.block ?_
        refine GWP.seq ?_
        refine GWP.region ?_
        refine GOps.r rfl rfl rfl rfl (grd_move rfl rfl) ?_
        refine GOps.r rfl rfl rfl rfl (grd_assign rfl rfl) ?_
        refine GOps.nil ?_
        refine GWP.region ?_
        refine GOps.r rfl rfl rfl rfl (grd_move rfl rfl) ?_
        refine GOps.r rfl rfl rfl rfl (grd_move rfl rfl) ?_
        focus
          refine GOps.w rfl rfl rfl rfl (gop_call rfl Try.call123 rfl ?_ (g_num _ _ h3 _ _ ?_ ?_ ?_)) ?_
          · simp [Ctx.may]; omega
          rotate_left 2
          refine rg_ne (b := ?_) ?_ ?_ ?_ ?_
          rotate_left 1
          focus
            · assumption
          refine (HExt.eq (by assumption) _ ?_ ?_).trans ?_
          · simp; omega
          · simp; omega
          refine Hp.at_put_eq ?_
          · omega
          · omega
          · rfl
        rintro _ Hxc97 ⟨rfl, ⟨pc93, cc94, rc95⟩, kc96, xc97⟩
        have xc97l := HExt.len xc97; try simp at xc97l
        have rc95g := RG.hg rc95; unfold rdBlk at rc95g
        refine GOps.r rfl rfl rfl rfl (grd_conv_in tab_is rfl rfl rfl rfl rfl ?_) ?_
        · refine wrap_i64_in ?_; omega
        refine GOps.r rfl rfl rfl rfl (grd_indexAddrA1 tab_is rfl rfl rfl rfl rfl ?_) ?_
        · simp; done
        focus
          refine GOps.s rfl rfl rfl (gop_store1 (b := ?_) tab_is rfl rfl rfl rfl rfl rfl ?_ ?_ ?_ ?_) ?_
          rotate_left 1
          refine (HExt.eq (by assumption) _ ?_ ?_).trans ?_
          · simp; omega
          · simp; omega
          refine Hp.at_put_eq ?_
          · omega
          · rfl
          · exact Nat.le_of_ble_eq_true rfl
          · exact .inr (by omega)
        refine GOps.nil ?_
        refine GWP.region ?_
        refine GOps.r rfl rfl rfl rfl (grd_add64 rfl rfl rfl ?_) ?_
        · omega
        refine GOps.r rfl rfl rfl rfl (grd_move rfl rfl) ?_
        refine GOps.nil ?_
        refine GRounds.step ?_
        refine GWP.seq ?_
        refine GWP.region ?_
        refine GOps.r rfl rfl rfl rfl (grd_lss rfl rfl rfl) ?_
        refine GOps.nil ?_
        refine GWP.seq ?_
        refine GWP.cond_t rfl ?_ ?_
        · exact decide_eq_true (by omega)
        refine GWP.skip ?_
        refine GWP.seq ?_
        refine GWP.block ?_
        refine GWP.seq ?_
        refine GWP.region ?_
        refine GOps.r rfl rfl rfl rfl (grd_move rfl rfl) ?_
        refine GOps.r rfl rfl rfl rfl (grd_assign rfl rfl) ?_
        refine GOps.nil ?_
        refine GWP.region ?_
        refine GOps.r rfl rfl rfl rfl (grd_move rfl rfl) ?_
        refine GOps.r rfl rfl rfl rfl (grd_move rfl rfl) ?_
        focus
          refine GOps.w rfl rfl rfl rfl (gop_call rfl Try.call123 rfl ?_ (g_num _ _ h4 _ _ ?_ ?_ ?_)) ?_
          · simp [Ctx.may]; omega
          rotate_left 2
          refine rg_ne (b := ?_) ?_ ?_ ?_ ?_
          rotate_left 1
          focus
            · assumption
          refine (HExt.eq (by assumption) _ ?_ ?_).trans ?_
          · simp; omega
          · simp; omega
          refine Hp.at_put_eq ?_
          · omega
          · omega
          · rfl
        rintro _ Hxc102 ⟨rfl, ⟨pc98, cc99, rc100⟩, kc101, xc102⟩
        have xc102l := HExt.len xc102; try simp at xc102l
        have rc100g := RG.hg rc100; unfold rdBlk at rc100g
        refine GOps.r rfl rfl rfl rfl (grd_conv_in tab_is rfl rfl rfl rfl rfl ?_) ?_
        · refine wrap_i64_in ?_; omega
        refine GOps.r rfl rfl rfl rfl (grd_indexAddrA1 tab_is rfl rfl rfl rfl rfl ?_) ?_
        · simp; done
        focus
          refine GOps.s rfl rfl rfl (gop_store1 (b := ?_) tab_is rfl rfl rfl rfl rfl rfl ?_ ?_ ?_ ?_) ?_
          rotate_left 1
          refine (HExt.eq (by assumption) _ ?_ ?_).trans ?_
          · simp; omega
          · simp; omega
          refine Hp.at_put_eq ?_
          · omega
          · rfl
          · exact Nat.le_of_ble_eq_true rfl
          · exact .inr (by omega)
        refine GOps.nil ?_
        refine GWP.region ?_
        refine GOps.r rfl rfl rfl rfl (grd_add64 rfl rfl rfl ?_) ?_
        · omega
        refine GOps.r rfl rfl rfl rfl (grd_move rfl rfl) ?_
        refine GOps.nil ?_
        refine GRounds.step ?_
        refine GWP.seq ?_
        refine GWP.region ?_
        refine GOps.r rfl rfl rfl rfl (grd_lss rfl rfl rfl) ?_
        refine GOps.nil ?_
        refine GWP.seq ?_
        refine GWP.cond_t rfl ?_ ?_
        · exact decide_eq_true (by omega)
        refine GWP.skip ?_
        refine GWP.seq ?_
        refine GWP.block ?_
        refine GWP.seq ?_
        refine GWP.region ?_
        refine GOps.r rfl rfl rfl rfl (grd_move rfl rfl) ?_
        refine GOps.r rfl rfl rfl rfl (grd_assign rfl rfl) ?_
        refine GOps.nil ?_
        refine GWP.region ?_
        refine GOps.r rfl rfl rfl rfl (grd_move rfl rfl) ?_
        refine GOps.r rfl rfl rfl rfl (grd_move rfl rfl) ?_
        focus
          refine GOps.w rfl rfl rfl rfl (gop_call rfl Try.call123 rfl ?_ (g_num _ _ h5 _ _ ?_ ?_ ?_)) ?_
          · simp [Ctx.may]; omega
          rotate_left 2
          refine rg_ne (b := ?_) ?_ ?_ ?_ ?_
          rotate_left 1
          focus
            · assumption
          refine (HExt.eq (by assumption) _ ?_ ?_).trans ?_
          · simp; omega
          · simp; omega
          refine Hp.at_put_eq ?_
          · omega
          · omega
          · rfl
        rintro _ Hxc107 ⟨rfl, ⟨pc103, cc104, rc105⟩, kc106, xc107⟩
        have xc107l := HExt.len xc107; try simp at xc107l
        have rc105g := RG.hg rc105; unfold rdBlk at rc105g
        refine GOps.r rfl rfl rfl rfl (grd_conv_in tab_is rfl rfl rfl rfl rfl ?_) ?_
        · refine wrap_i64_in ?_; omega
        refine GOps.r rfl rfl rfl rfl (grd_indexAddrA1 tab_is rfl rfl rfl rfl rfl ?_) ?_
        · simp; done
        focus
          refine GOps.s rfl rfl rfl (gop_store1 (b := ?_) tab_is rfl rfl rfl rfl rfl rfl ?_ ?_ ?_ ?_) ?_
          rotate_left 1
          refine (HExt.eq (by assumption) _ ?_ ?_).trans ?_
          · simp; omega
          · simp; omega
          refine Hp.at_put_eq ?_
          · omega
          · rfl
          · exact Nat.le_of_ble_eq_true rfl
          · exact .inr (by omega)
        refine GOps.nil ?_
        refine GWP.region ?_
        refine GOps.r rfl rfl rfl rfl (grd_add64 rfl rfl rfl ?_) ?_
        · omega
        refine GOps.r rfl rfl rfl rfl (grd_move rfl rfl) ?_
        refine GOps.nil ?_
        refine GRounds.step ?_
        refine GWP.seq ?_
        refine GWP.region ?_
        refine GOps.r rfl rfl rfl rfl (grd_lss rfl rfl rfl) ?_
        refine GOps.nil ?_
        refine GWP.seq ?_
        refine GWP.cond_f rfl ?_ ?_
        · exact decide_eq_false (by omega)
        refine GWP.exit ?_
        refine GWP.seq ?_
        refine GWP.block ?_
        refine GWP.seq ?_
        refine GWP.region ?_
        refine GOps.r rfl rfl rfl rfl (grd_move rfl rfl) ?_
        focus
          refine GOps.w1 rfl rfl rfl rfl (gop_call rfl Try.call67 rfl ?_ (g_end _ _ ?_ ?_ ?_ ?_)) ?_
          · intro _ h; cases h; done
          rotate_left 3
          refine rg_ne (b := ?_) ?_ ?_ ?_ ?_
          rotate_left 1
          focus
            · assumption
          refine (HExt.eq (by assumption) _ ?_ ?_).trans ?_
          · simp; omega
          · simp; omega
          refine Hp.at_put_eq ?_
          · omega
          · omega
          · rfl
        refine GOps.r rfl rfl rfl rfl (grd_neq rfl rfl rfl) ?_
        refine GOps.r rfl rfl rfl rfl (grd_assign rfl rfl) ?_
        refine GOps.nil ?_
        refine GWP.cond rfl (fun c108 => ?_) (fun c108 => ?_)
        simp only [beq_true, beq_false, Bool.not_true, Bool.not_false, Bool.not_eq_true', Bool.not_eq_false', decide_eq_true_eq, decide_eq_false_iff_not] at c108
        refine GWP.skip ?_
        refine GWP.seq ?_
        refine GWP.region ?_
        refine GOps.r rfl rfl rfl rfl (grd_assign rfl rfl) ?_
        refine GOps.r rfl rfl rfl rfl (grd_assign rfl rfl) ?_
        refine GOps.nil ?_
        refine GWP.ret ?_
        refine ⟨_, .two (.one rfl) (.one rfl), ?_⟩
        refine ⟨?_, ?_⟩
        · rw [if_neg (by omega), segN, if_pos (by omega)]; rfl
        refine HExt.put ?_ ?_
        refine HExt.tr ?_ (by assumption) ?_
        refine HExt.put ?_ ?_
        refine HExt.tr ?_ (by assumption) ?_
        refine HExt.put ?_ ?_
        refine HExt.tr ?_ (by assumption) ?_
        refine HExt.put ?_ ?_
        refine HExt.tr ?_ (by assumption) ?_
        refine HExt.put ?_ ?_
        refine HExt.tr ?_ (by assumption) ?_
        refine HExt.tr ?_ (by assumption) ?_
        refine HExt.push ?_
        · assumption
        · intro _ h; cases h; done
        · simp; omega
        · exact .inr (by omega)
        · simp; omega
        · exact .inr (by omega)
        · simp; omega
        · exact .inr (by omega)
        · simp; omega
        · exact .inr (by omega)
        · simp; omega
        · exact .inr (by omega)
        simp only [beq_true, beq_false, Bool.not_true, Bool.not_false, Bool.not_eq_true', Bool.not_eq_false', decide_eq_true_eq, decide_eq_false_iff_not] at c108
        refine GWP.seq ?_
        refine GWP.region ?_
        refine GOps.r rfl rfl rfl rfl (grd_move rfl rfl) ?_
        focus
          refine GOps.r rfl rfl rfl rfl (grd_indexBS (q := ?_) (L := ?_) tab_is rfl rfl rfl rfl rfl ?_ ?_ ?_) ?_
          rotate_left 2
          focus
            refine BS.ext (by assumption) ?_
            refine HExt.put ?_ ?_
            refine HExt.tr ?_ (by assumption) ?_
            refine HExt.put ?_ ?_
            refine HExt.tr ?_ (by assumption) ?_
            refine HExt.put ?_ ?_
            refine HExt.tr ?_ (by assumption) ?_
            refine HExt.put ?_ ?_
            refine HExt.tr ?_ (by assumption) ?_
            refine HExt.put ?_ ?_
            refine HExt.tr ?_ (by assumption) ?_
            refine HExt.tr ?_ (by assumption) ?_
            refine HExt.push ?_
            · exact HExt.refl _ _
            · intro _ h; cases h; done
            · simp; omega
            · exact .inr (by omega)
            · simp; omega
            · exact .inr (by omega)
            · simp; omega
            · exact .inr (by omega)
            · simp; omega
            · exact .inr (by omega)
            · simp; omega
            · exact .inr (by omega)
          · rfl
          · exact Nat.le_of_ble_eq_true rfl
        focus
          refine GOps.re rfl rfl rfl rfl (grd_loadBSK (n := ?_) (c := ?_) (L := ?_) (u := ?_) tab_is rfl rfl rfl rfl ?_ ?_ ?_) ?_
          rotate_left 4
          focus
            refine BS.ext (by assumption) ?_
            refine HExt.put ?_ ?_
            refine HExt.tr ?_ (by assumption) ?_
            refine HExt.put ?_ ?_
            refine HExt.tr ?_ (by assumption) ?_
            refine HExt.put ?_ ?_
            refine HExt.tr ?_ (by assumption) ?_
            refine HExt.put ?_ ?_
            refine HExt.tr ?_ (by assumption) ?_
            refine HExt.put ?_ ?_
            refine HExt.tr ?_ (by assumption) ?_
            refine HExt.tr ?_ (by assumption) ?_
            refine HExt.push ?_
            · exact HExt.refl _ _
            · intro _ h; cases h; done
            · simp; omega
            · exact .inr (by omega)
            · simp; omega
            · exact .inr (by omega)
            · simp; omega
            · exact .inr (by omega)
            · simp; omega
            · exact .inr (by omega)
            · simp; omega
            · exact .inr (by omega)
          · exact Nat.le_of_ble_eq_true rfl
          · simp only [List.getD_cons_zero]; rfl
        refine GOps.r rfl rfl rfl rfl (grd_eql rfl rfl rfl) ?_
        refine GOps.r rfl rfl rfl rfl (grd_assign rfl rfl) ?_
        refine GOps.nil ?_
        refine GWP.cond rfl (fun c109 => ?_) (fun c109 => ?_)
        simp only [beq_true, beq_false, Bool.not_true, Bool.not_false, Bool.not_eq_true', Bool.not_eq_false', decide_eq_true_eq, decide_eq_false_iff_not] at c109
        refine GWP.seq ?_
        refine GWP.region ?_
        refine GOps.r rfl rfl rfl rfl (grd_indexAddrA1 tab_is rfl rfl rfl rfl rfl ?_) ?_
        · simp; done
        focus
          refine GOps.r rfl rfl rfl rfl (grd_load1 (b := ?_) (v := ?_) tab_is rfl rfl rfl rfl ?_ ?_) ?_
          rotate_left 2
          refine Hp.at_put_eq ?_
          · omega
          · rfl
        refine GOps.r rfl rfl rfl rfl (grd_indexAddrA1 tab_is rfl rfl rfl rfl rfl ?_) ?_
        · simp; done
        focus
          refine GOps.r rfl rfl rfl rfl (grd_load1 (b := ?_) (v := ?_) tab_is rfl rfl rfl rfl ?_ ?_) ?_
          rotate_left 2
          refine Hp.at_put_eq ?_
          · omega
          · rfl
        refine GOps.r rfl rfl rfl rfl (grd_indexAddrA1 tab_is rfl rfl rfl rfl rfl ?_) ?_
        · simp; done
        focus
          refine GOps.r rfl rfl rfl rfl (grd_load1 (b := ?_) (v := ?_) tab_is rfl rfl rfl rfl ?_ ?_) ?_
          rotate_left 2
          refine Hp.at_put_eq ?_
          · omega
          · rfl
        refine GOps.r rfl rfl rfl rfl (grd_indexAddrA1 tab_is rfl rfl rfl rfl rfl ?_) ?_
        · simp; done
        focus
          refine GOps.r rfl rfl rfl rfl (grd_load1 (b := ?_) (v := ?_) tab_is rfl rfl rfl rfl ?_ ?_) ?_
          rotate_left 2
          refine Hp.at_put_eq ?_
          · omega
          · rfl
        refine GOps.r rfl rfl rfl rfl (grd_indexAddrA1 tab_is rfl rfl rfl rfl rfl ?_) ?_
        · simp; done
        focus
          refine GOps.r rfl rfl rfl rfl (grd_load1 (b := ?_) (v := ?_) tab_is rfl rfl rfl rfl ?_ ?_) ?_
          rotate_left 2
          refine Hp.at_put_eq ?_
          · omega
          · rfl
        focus
          refine GOps.r rfl rfl rfl rfl (grd_build (cs := ?_) tab_is rfl rfl rfl ?_ rfl ?_) ?_
          rotate_left 1
          · decide
          · simp [gfill, gsets, Value.cells]; rfl
        refine GOps.r rfl rfl rfl rfl (grd_mkI tab_is rfl rfl rfl rfl) ?_
        refine GOps.r rfl rfl rfl rfl (grd_assign rfl rfl) ?_
        refine GOps.r rfl rfl rfl rfl (grd_assign rfl rfl) ?_
        refine GOps.nil ?_
        refine GWP.ret ?_
        refine ⟨_, .two (.one rfl) (.one rfl), ?_⟩
        refine ⟨?_, ?_⟩
        · rw [if_neg (by omega), segN, if_neg (by omega), if_pos (by omega)]; rfl
        refine HExt.put ?_ ?_
        refine HExt.tr ?_ (by assumption) ?_
        refine HExt.put ?_ ?_
        refine HExt.tr ?_ (by assumption) ?_
        refine HExt.put ?_ ?_
        refine HExt.tr ?_ (by assumption) ?_
        refine HExt.put ?_ ?_
        refine HExt.tr ?_ (by assumption) ?_
        refine HExt.put ?_ ?_
        refine HExt.tr ?_ (by assumption) ?_
        refine HExt.tr ?_ (by assumption) ?_
        refine HExt.push ?_
        · assumption
        · intro _ h; cases h; done
        · simp; omega
        · exact .inr (by omega)
        · simp; omega
        · exact .inr (by omega)
        · simp; omega
        · exact .inr (by omega)
        · simp; omega
        · exact .inr (by omega)
        · simp; omega
        · exact .inr (by omega)
        simp only [beq_true, beq_false, Bool.not_true, Bool.not_false, Bool.not_eq_true', Bool.not_eq_false', decide_eq_true_eq, decide_eq_false_iff_not] at c109
        refine GWP.seq ?_
        refine GWP.region ?_
        refine GOps.r rfl rfl rfl rfl (grd_move rfl rfl) ?_
        focus
          refine GOps.r rfl rfl rfl rfl (grd_indexBS (q := ?_) (L := ?_) tab_is rfl rfl rfl rfl rfl ?_ ?_ ?_) ?_
          rotate_left 2
          focus
            refine BS.ext (by assumption) ?_
            refine HExt.put ?_ ?_
            refine HExt.tr ?_ (by assumption) ?_
            refine HExt.put ?_ ?_
            refine HExt.tr ?_ (by assumption) ?_
            refine HExt.put ?_ ?_
            refine HExt.tr ?_ (by assumption) ?_
            refine HExt.put ?_ ?_
            refine HExt.tr ?_ (by assumption) ?_
            refine HExt.put ?_ ?_
            refine HExt.tr ?_ (by assumption) ?_
            refine HExt.tr ?_ (by assumption) ?_
            refine HExt.push ?_
            · exact HExt.refl _ _
            · intro _ h; cases h; done
            · simp; omega
            · exact .inr (by omega)
            · simp; omega
            · exact .inr (by omega)
            · simp; omega
            · exact .inr (by omega)
            · simp; omega
            · exact .inr (by omega)
            · simp; omega
            · exact .inr (by omega)
          · rfl
          · exact Nat.le_of_ble_eq_true rfl
        focus
          refine GOps.re rfl rfl rfl rfl (grd_loadBSK (n := ?_) (c := ?_) (L := ?_) (u := ?_) tab_is rfl rfl rfl rfl ?_ ?_ ?_) ?_
          rotate_left 4
          focus
            refine BS.ext (by assumption) ?_
            refine HExt.put ?_ ?_
            refine HExt.tr ?_ (by assumption) ?_
            refine HExt.put ?_ ?_
            refine HExt.tr ?_ (by assumption) ?_
            refine HExt.put ?_ ?_
            refine HExt.tr ?_ (by assumption) ?_
            refine HExt.put ?_ ?_
            refine HExt.tr ?_ (by assumption) ?_
            refine HExt.put ?_ ?_
            refine HExt.tr ?_ (by assumption) ?_
            refine HExt.tr ?_ (by assumption) ?_
            refine HExt.push ?_
            · exact HExt.refl _ _
            · intro _ h; cases h; done
            · simp; omega
            · exact .inr (by omega)
            · simp; omega
            · exact .inr (by omega)
            · simp; omega
            · exact .inr (by omega)
            · simp; omega
            · exact .inr (by omega)
            · simp; omega
            · exact .inr (by omega)
          · exact Nat.le_of_ble_eq_true rfl
          · simp only [List.getD_cons_zero]; rfl
        refine GOps.r rfl rfl rfl rfl (grd_eql rfl rfl rfl) ?_
        refine GOps.r rfl rfl rfl rfl (grd_move rfl rfl) ?_
        refine GOps.split rfl rfl (fun c110 => ?_) (fun c110 => ?_)
        simp only [beq_true, beq_false, Bool.not_true, Bool.not_false, Bool.not_eq_true', Bool.not_eq_false', decide_eq_true_eq, decide_eq_false_iff_not] at c110
        refine GOps.take rfl rfl ?_ ?_
        · exact beq_iff_eq.2 (decide_eq_true (by assumption))
        refine GOps.r rfl rfl rfl rfl (grd_indexAddrA1 tab_is rfl rfl rfl rfl rfl ?_) ?_
        · simp; done
        refine GOps.take rfl rfl ?_ ?_
        · exact beq_iff_eq.2 (decide_eq_true (by assumption))
        focus
          refine GOps.r rfl rfl rfl rfl (grd_load1 (b := ?_) (v := ?_) tab_is rfl rfl rfl rfl ?_ ?_) ?_
          rotate_left 2
          refine Hp.at_put_eq ?_
          · omega
          · rfl
        refine GOps.take rfl rfl ?_ ?_
        · exact beq_iff_eq.2 (decide_eq_true (by assumption))
        refine GOps.r rfl rfl rfl rfl (grd_leq rfl rfl rfl) ?_
        refine GOps.r rfl rfl rfl rfl (grd_pick_t rfl rfl ?_ rfl) ?_
        · exact decide_eq_true (by assumption)
        refine GOps.r rfl rfl rfl rfl (grd_assign rfl rfl) ?_
        refine GOps.nil ?_
        refine GWP.cond rfl (fun c111 => ?_) (fun c111 => ?_)
        simp only [beq_true, beq_false, Bool.not_true, Bool.not_false, Bool.not_eq_true', Bool.not_eq_false', decide_eq_true_eq, decide_eq_false_iff_not] at c111
        refine GWP.seq ?_
        refine GWP.region ?_
        refine GOps.r rfl rfl rfl rfl (grd_indexAddrA1 tab_is rfl rfl rfl rfl rfl ?_) ?_
        · simp; done
        focus
          refine GOps.r rfl rfl rfl rfl (grd_load1 (b := ?_) (v := ?_) tab_is rfl rfl rfl rfl ?_ ?_) ?_
          rotate_left 2
          refine Hp.at_put_eq ?_
          · omega
          · rfl
        refine GOps.r rfl rfl rfl rfl (grd_indexAddrA1 tab_is rfl rfl rfl rfl rfl ?_) ?_
        · simp; done
        focus
          refine GOps.r rfl rfl rfl rfl (grd_load1 (b := ?_) (v := ?_) tab_is rfl rfl rfl rfl ?_ ?_) ?_
          rotate_left 2
          refine Hp.at_put_eq ?_
          · omega
          · rfl
        refine GOps.r rfl rfl rfl rfl (grd_indexAddrA1 tab_is rfl rfl rfl rfl rfl ?_) ?_
        · simp; done
        focus
          refine GOps.r rfl rfl rfl rfl (grd_load1 (b := ?_) (v := ?_) tab_is rfl rfl rfl rfl ?_ ?_) ?_
          rotate_left 2
          refine Hp.at_put_eq ?_
          · omega
          · rfl
        refine GOps.r rfl rfl rfl rfl (grd_indexAddrA1 tab_is rfl rfl rfl rfl rfl ?_) ?_
        · simp; done
        focus
          refine GOps.r rfl rfl rfl rfl (grd_load1 (b := ?_) (v := ?_) tab_is rfl rfl rfl rfl ?_ ?_) ?_
          rotate_left 2
          refine Hp.at_put_eq ?_
          · omega
          · rfl
        refine GOps.r rfl rfl rfl rfl (grd_indexAddrA1 tab_is rfl rfl rfl rfl rfl ?_) ?_
        · simp; done
        focus
          refine GOps.r rfl rfl rfl rfl (grd_load1 (b := ?_) (v := ?_) tab_is rfl rfl rfl rfl ?_ ?_) ?_
          rotate_left 2
          refine Hp.at_put_eq ?_
          · omega
          · rfl
        refine GOps.r rfl rfl rfl rfl (grd_eql rfl rfl rfl) ?_
        focus
          refine GOps.r rfl rfl rfl rfl (grd_build (cs := ?_) tab_is rfl rfl rfl ?_ rfl ?_) ?_
          rotate_left 1
          · decide
          · simp [gfill, gsets, Value.cells]; rfl
        refine GOps.r rfl rfl rfl rfl (grd_mkI tab_is rfl rfl rfl rfl) ?_
        refine GOps.r rfl rfl rfl rfl (grd_assign rfl rfl) ?_
        refine GOps.r rfl rfl rfl rfl (grd_assign rfl rfl) ?_
        refine GOps.nil ?_
        refine GWP.ret ?_
        refine ⟨_, .two (.one rfl) (.one rfl), ?_⟩
        refine ⟨?_, ?_⟩
        rotate_left 1
        refine HExt.put ?_ ?_
        refine HExt.tr ?_ (by assumption) ?_
        refine HExt.put ?_ ?_
        refine HExt.tr ?_ (by assumption) ?_
        refine HExt.put ?_ ?_
        refine HExt.tr ?_ (by assumption) ?_
        refine HExt.put ?_ ?_
        refine HExt.tr ?_ (by assumption) ?_
        refine HExt.put ?_ ?_
        refine HExt.tr ?_ (by assumption) ?_
        refine HExt.tr ?_ (by assumption) ?_
        refine HExt.push ?_
        · assumption
        · intro _ h; cases h; done
        · simp; omega
        · exact .inr (by omega)
        · simp; omega
        · exact .inr (by omega)
        · simp; omega
        · exact .inr (by omega)
        · simp; omega
        · exact .inr (by omega)
        · simp; omega
        · exact .inr (by omega)
        simp only [beq_true, beq_false, Bool.not_true, Bool.not_false, Bool.not_eq_true', Bool.not_eq_false', decide_eq_true_eq, decide_eq_false_iff_not] at c111
        refine GWP.skip ?_
        refine GWP.seq ?_
        refine GWP.region ?_
        refine GOps.r rfl rfl rfl rfl (grd_assign rfl rfl) ?_
        refine GOps.r rfl rfl rfl rfl (grd_assign rfl rfl) ?_
        refine GOps.nil ?_
        refine GWP.ret ?_
        refine ⟨_, .two (.one rfl) (.one rfl), ?_⟩
        refine ⟨?_, ?_⟩
        · rw [if_neg (by omega), segN, if_neg (by omega), if_neg (by omega), if_neg (by omega)]; rfl
        refine HExt.put ?_ ?_
        refine HExt.tr ?_ (by assumption) ?_
        refine HExt.put ?_ ?_
        refine HExt.tr ?_ (by assumption) ?_
        refine HExt.put ?_ ?_
        refine HExt.tr ?_ (by assumption) ?_
        refine HExt.put ?_ ?_
        refine HExt.tr ?_ (by assumption) ?_
        refine HExt.put ?_ ?_
        refine HExt.tr ?_ (by assumption) ?_
        refine HExt.tr ?_ (by assumption) ?_
        refine HExt.push ?_
        · assumption
        · intro _ h; cases h; done
        · simp; omega
        · exact .inr (by omega)
        · simp; omega
        · exact .inr (by omega)
        · simp; omega
        · exact .inr (by omega)
        · simp; omega
        · exact .inr (by omega)
        · simp; omega
        · exact .inr (by omega)
        simp only [beq_true, beq_false, Bool.not_true, Bool.not_false, Bool.not_eq_true', Bool.not_eq_false', decide_eq_true_eq, decide_eq_false_iff_not] at c110
        refine GOps.no rfl ?_ rfl rfl ?_
        · exact beq_eq_false_iff_ne.2 (by rw [decide_eq_false (by assumption)]; decide)
        refine GOps.no rfl ?_ rfl rfl ?_
        · exact beq_eq_false_iff_ne.2 (by rw [decide_eq_false (by assumption)]; decide)
        refine GOps.no rfl ?_ rfl rfl ?_
        · exact beq_eq_false_iff_ne.2 (by rw [decide_eq_false (by assumption)]; decide)
        refine GOps.r rfl rfl rfl rfl (grd_pick_f rfl rfl ?_ rfl) ?_
        · exact decide_eq_false (by assumption)
        refine GOps.r rfl rfl rfl rfl (grd_assign rfl rfl) ?_
        refine GOps.nil ?_
        refine GWP.cond_f rfl ?_ ?_
        · with_reducible rfl
        refine GWP.skip ?_
        refine GWP.seq ?_
        refine GWP.region ?_
        refine GOps.r rfl rfl rfl rfl (grd_assign rfl rfl) ?_
        refine GOps.r rfl rfl rfl rfl (grd_assign rfl rfl) ?_
        refine GOps.nil ?_
        refine GWP.ret ?_
        refine ⟨_, .two (.one rfl) (.one rfl), ?_⟩
        refine ⟨?_, ?_⟩
        · rw [if_neg (by omega), segN, if_neg (by omega), if_neg (by omega), if_neg (by omega)]; rfl
        refine HExt.put ?_ ?_
        refine HExt.tr ?_ (by assumption) ?_
        refine HExt.put ?_ ?_
        refine HExt.tr ?_ (by assumption) ?_
        refine HExt.put ?_ ?_
        refine HExt.tr ?_ (by assumption) ?_
        refine HExt.put ?_ ?_
        refine HExt.tr ?_ (by assumption) ?_
        refine HExt.put ?_ ?_
        refine HExt.tr ?_ (by assumption) ?_
        refine HExt.tr ?_ (by assumption) ?_
        refine HExt.push ?_
        · assumption
        · intro _ h; cases h; done
        · simp; omega
        · exact .inr (by omega)
        · simp; omega
        · exact .inr (by omega)
        · simp; omega
        · exact .inr (by omega)
        · simp; omega
        · exact .inr (by omega)
        · simp; omega
        · exact .inr (by omega)
      have hd : decide ((r5.1 : Int) = 1) = decide (r5.1 = 1) := by rw [decide_eq_decide]; omega
      rw [hd, if_neg (by omega), segN, if_neg (by omega), if_neg (by omega), if_pos ⟨by omega, by omega⟩]
      rfl
end Go.Proofs.Ytcbngjpihcemiaa

/- Blocks of a segment: the document's. -/
namespace Go.Proofs.Ytcbngjpihcemiaa
open Go.RowKit

def blkV (k a b c d e : Int) (L : List UInt8) : Value := .agg #[.int .u8 k, .int .i64 a, .int .i64 b, .int .i64 c, .int .i64 d, .int .i64 e, .string ⟨L.toArray⟩]
set_option maxHeartbeats 4000000 in
set_option maxRecDepth 100000 in
set_option linter.unusedSimpArgs false in
theorem g_rightD (H : Hp) (k : Int) (L : List UInt8) (hk : k = 68) : GCalls Try.prog 108 [.agg #[.int .u8 k, .int .i64 0, .int .i64 0, .int .i64 0, .int .i64 0, .int .i64 0, .string ⟨L.toArray⟩]] [] H fun v H' => v = .bool (decide (1 ≤ L.length ∧ L.length ≤ 160)) ∧ HExt [] H H' := by
  subst hk
  refine GCalls.body tab_is Try.func108 rfl Try.results108 Try.ntmps108 (by simp) ?_ ?_
  · first | (intro _ h; cases h; done) | (simp; done) | (simp; omega) | (intro i hi; simp at hi; rcases hi with rfl | rfl <;> omega) | (intro i hi; simp at hi; rcases hi with rfl | rfl | rfl <;> omega)
  focus
    refine GWP.seq ?_
    refine GWP.region ?_
    focus
      refine GOps.w1 rfl rfl rfl rfl (gop_box' (id := ?_) ?_ rfl rfl rfl) ?_
      rotate_left 1
      · rfl
    refine GOps.r rfl rfl rfl rfl (grd_assign rfl rfl) ?_
    refine GOps.nil ?_
    refine GWP.seq ?_
    refine GWP.seq ?_
    refine GWP.region ?_
    refine GOps.r rfl rfl rfl rfl (grd_assign rfl rfl) ?_
    refine GOps.nil ?_
    refine GWP.block ?_
    refine GWP.loopN 6 ?_
    refine GRounds.step ?_
    refine GWP.seq ?_
    refine GWP.seq ?_
    refine GWP.region ?_
    refine GOps.r rfl rfl rfl rfl (grd_move rfl rfl) ?_
    refine GOps.r rfl rfl rfl rfl (grd_lss rfl rfl rfl) ?_
    refine GOps.nil ?_
    refine GWP.cond_t rfl ?_ ?_
    · exact decide_eq_true (by omega)
    refine GWP.skip ?_
    refine GWP.seq ?_
    refine GWP.block ?_
    refine GWP.seq ?_
    refine GWP.region ?_
    refine GOps.r rfl rfl rfl rfl (grd_move rfl rfl) ?_
    refine GOps.r rfl rfl rfl rfl (grd_fieldAddr tab_is rfl rfl rfl rfl rfl) ?_
    refine GOps.r rfl rfl rfl rfl (grd_indexAddrA1 tab_is rfl rfl rfl rfl rfl ?_) ?_
    · simp; done
    focus
      refine GOps.r rfl rfl rfl rfl (grd_load1 (b := ?_) (v := ?_) tab_is rfl rfl rfl rfl ?_ ?_) ?_
      rotate_left 2
      · exact Hp.at_push_eq
      · rfl
    refine GOps.r rfl rfl rfl rfl (grd_lss rfl rfl rfl) ?_
    refine GOps.r rfl rfl rfl rfl (grd_move rfl rfl) ?_
    refine GOps.take rfl rfl ?_ ?_
    · simp; done
    refine GOps.r rfl rfl rfl rfl (grd_move rfl rfl) ?_
    refine GOps.take rfl rfl ?_ ?_
    · simp; done
    refine GOps.r rfl rfl rfl rfl (grd_fieldAddr tab_is rfl rfl rfl rfl rfl) ?_
    refine GOps.take rfl rfl ?_ ?_
    · simp; done
    refine GOps.r rfl rfl rfl rfl (grd_indexAddrA1 tab_is rfl rfl rfl rfl rfl ?_) ?_
    · simp; done
    refine GOps.take rfl rfl ?_ ?_
    · simp; done
    focus
      refine GOps.r rfl rfl rfl rfl (grd_load1 (b := ?_) (v := ?_) tab_is rfl rfl rfl rfl ?_ ?_) ?_
      rotate_left 2
      · exact Hp.at_push_eq
      · rfl
    refine GOps.take rfl rfl ?_ ?_
    · simp; done
    refine GOps.r rfl rfl rfl rfl (grd_gtr rfl rfl rfl) ?_
    refine GOps.r rfl rfl rfl rfl (grd_pick_f rfl rfl ?_ rfl) ?_
    · exact decide_eq_false (by omega)
    refine GOps.nil ?_
    refine GWP.cond_f rfl ?_ ?_
    · exact decide_eq_false (by omega)
    refine GWP.skip ?_
    refine GWP.region ?_
    refine GOps.r rfl rfl rfl rfl (grd_move rfl rfl) ?_
    refine GOps.r rfl rfl rfl rfl (grd_add64 rfl rfl rfl ?_) ?_
    · omega
    refine GOps.r rfl rfl rfl rfl (grd_assign rfl rfl) ?_
    refine GOps.nil ?_
    refine GRounds.step ?_
    refine GWP.seq ?_
    refine GWP.seq ?_
    refine GWP.region ?_
    refine GOps.r rfl rfl rfl rfl (grd_move rfl rfl) ?_
    refine GOps.r rfl rfl rfl rfl (grd_lss rfl rfl rfl) ?_
    refine GOps.nil ?_
    refine GWP.cond_t rfl ?_ ?_
    · exact decide_eq_true (by omega)
    refine GWP.skip ?_
    refine GWP.seq ?_
    refine GWP.block ?_
    refine GWP.seq ?_
    refine GWP.region ?_
    refine GOps.r rfl rfl rfl rfl (grd_move rfl rfl) ?_
    refine GOps.r rfl rfl rfl rfl (grd_fieldAddr tab_is rfl rfl rfl rfl rfl) ?_
    refine GOps.r rfl rfl rfl rfl (grd_indexAddrA1 tab_is rfl rfl rfl rfl rfl ?_) ?_
    · simp; done
    focus
      refine GOps.r rfl rfl rfl rfl (grd_load1 (b := ?_) (v := ?_) tab_is rfl rfl rfl rfl ?_ ?_) ?_
      rotate_left 2
      · exact Hp.at_push_eq
      · rfl
    refine GOps.r rfl rfl rfl rfl (grd_lss rfl rfl rfl) ?_
    refine GOps.r rfl rfl rfl rfl (grd_move rfl rfl) ?_
    refine GOps.take rfl rfl ?_ ?_
    · simp; done
    refine GOps.r rfl rfl rfl rfl (grd_move rfl rfl) ?_
    refine GOps.take rfl rfl ?_ ?_
    · simp; done
    refine GOps.r rfl rfl rfl rfl (grd_fieldAddr tab_is rfl rfl rfl rfl rfl) ?_
    refine GOps.take rfl rfl ?_ ?_
    · simp; done
    refine GOps.r rfl rfl rfl rfl (grd_indexAddrA1 tab_is rfl rfl rfl rfl rfl ?_) ?_
    · simp; done
    refine GOps.take rfl rfl ?_ ?_
    · simp; done
    focus
      refine GOps.r rfl rfl rfl rfl (grd_load1 (b := ?_) (v := ?_) tab_is rfl rfl rfl rfl ?_ ?_) ?_
      rotate_left 2
      · exact Hp.at_push_eq
      · rfl
    refine GOps.take rfl rfl ?_ ?_
    · simp; done
    refine GOps.r rfl rfl rfl rfl (grd_gtr rfl rfl rfl) ?_
    refine GOps.r rfl rfl rfl rfl (grd_pick_f rfl rfl ?_ rfl) ?_
    · exact decide_eq_false (by omega)
    refine GOps.nil ?_
    refine GWP.cond_f rfl ?_ ?_
    · exact decide_eq_false (by omega)
    refine GWP.skip ?_
    refine GWP.region ?_
    refine GOps.r rfl rfl rfl rfl (grd_move rfl rfl) ?_
    refine GOps.r rfl rfl rfl rfl (grd_add64 rfl rfl rfl ?_) ?_
    · omega
    refine GOps.r rfl rfl rfl rfl (grd_assign rfl rfl) ?_
    refine GOps.nil ?_
    refine GRounds.step ?_
    refine GWP.seq ?_
    refine GWP.seq ?_
    refine GWP.region ?_
    refine GOps.r rfl rfl rfl rfl (grd_move rfl rfl) ?_
    refine GOps.r rfl rfl rfl rfl (grd_lss rfl rfl rfl) ?_
    refine GOps.nil ?_
    refine GWP.cond_t rfl ?_ ?_
    · exact decide_eq_true (by omega)
    refine GWP.skip ?_
    refine GWP.seq ?_
    refine GWP.block ?_
    refine GWP.seq ?_
    refine GWP.region ?_
    refine GOps.r rfl rfl rfl rfl (grd_move rfl rfl) ?_
    refine GOps.r rfl rfl rfl rfl (grd_fieldAddr tab_is rfl rfl rfl rfl rfl) ?_
    refine GOps.r rfl rfl rfl rfl (grd_indexAddrA1 tab_is rfl rfl rfl rfl rfl ?_) ?_
    · simp; done
    focus
      refine GOps.r rfl rfl rfl rfl (grd_load1 (b := ?_) (v := ?_) tab_is rfl rfl rfl rfl ?_ ?_) ?_
      rotate_left 2
      · exact Hp.at_push_eq
      · rfl
    refine GOps.r rfl rfl rfl rfl (grd_lss rfl rfl rfl) ?_
    refine GOps.r rfl rfl rfl rfl (grd_move rfl rfl) ?_
    refine GOps.take rfl rfl ?_ ?_
    · simp; done
    refine GOps.r rfl rfl rfl rfl (grd_move rfl rfl) ?_
    refine GOps.take rfl rfl ?_ ?_
    · simp; done
    refine GOps.r rfl rfl rfl rfl (grd_fieldAddr tab_is rfl rfl rfl rfl rfl) ?_
    refine GOps.take rfl rfl ?_ ?_
    · simp; done
    refine GOps.r rfl rfl rfl rfl (grd_indexAddrA1 tab_is rfl rfl rfl rfl rfl ?_) ?_
    · simp; done
    refine GOps.take rfl rfl ?_ ?_
    · simp; done
    focus
      refine GOps.r rfl rfl rfl rfl (grd_load1 (b := ?_) (v := ?_) tab_is rfl rfl rfl rfl ?_ ?_) ?_
      rotate_left 2
      · exact Hp.at_push_eq
      · rfl
    refine GOps.take rfl rfl ?_ ?_
    · simp; done
    refine GOps.r rfl rfl rfl rfl (grd_gtr rfl rfl rfl) ?_
    refine GOps.r rfl rfl rfl rfl (grd_pick_f rfl rfl ?_ rfl) ?_
    · exact decide_eq_false (by omega)
    refine GOps.nil ?_
    refine GWP.cond_f rfl ?_ ?_
    · exact decide_eq_false (by omega)
    refine GWP.skip ?_
    refine GWP.region ?_
    refine GOps.r rfl rfl rfl rfl (grd_move rfl rfl) ?_
    refine GOps.r rfl rfl rfl rfl (grd_add64 rfl rfl rfl ?_) ?_
    · omega
    refine GOps.r rfl rfl rfl rfl (grd_assign rfl rfl) ?_
    refine GOps.nil ?_
    refine GRounds.step ?_
    refine GWP.seq ?_
    refine GWP.seq ?_
    refine GWP.region ?_
    refine GOps.r rfl rfl rfl rfl (grd_move rfl rfl) ?_
    refine GOps.r rfl rfl rfl rfl (grd_lss rfl rfl rfl) ?_
    refine GOps.nil ?_
    refine GWP.cond_t rfl ?_ ?_
    · exact decide_eq_true (by omega)
    refine GWP.skip ?_
    refine GWP.seq ?_
    refine GWP.block ?_
    refine GWP.seq ?_
    refine GWP.region ?_
    refine GOps.r rfl rfl rfl rfl (grd_move rfl rfl) ?_
    refine GOps.r rfl rfl rfl rfl (grd_fieldAddr tab_is rfl rfl rfl rfl rfl) ?_
    refine GOps.r rfl rfl rfl rfl (grd_indexAddrA1 tab_is rfl rfl rfl rfl rfl ?_) ?_
    · simp; done
    focus
      refine GOps.r rfl rfl rfl rfl (grd_load1 (b := ?_) (v := ?_) tab_is rfl rfl rfl rfl ?_ ?_) ?_
      rotate_left 2
      · exact Hp.at_push_eq
      · rfl
    refine GOps.r rfl rfl rfl rfl (grd_lss rfl rfl rfl) ?_
    refine GOps.r rfl rfl rfl rfl (grd_move rfl rfl) ?_
    refine GOps.take rfl rfl ?_ ?_
    · simp; done
    refine GOps.r rfl rfl rfl rfl (grd_move rfl rfl) ?_
    refine GOps.take rfl rfl ?_ ?_
    · simp; done
    refine GOps.r rfl rfl rfl rfl (grd_fieldAddr tab_is rfl rfl rfl rfl rfl) ?_
    refine GOps.take rfl rfl ?_ ?_
    · simp; done
    refine GOps.r rfl rfl rfl rfl (grd_indexAddrA1 tab_is rfl rfl rfl rfl rfl ?_) ?_
    · simp; done
    refine GOps.take rfl rfl ?_ ?_
    · simp; done
    focus
      refine GOps.r rfl rfl rfl rfl (grd_load1 (b := ?_) (v := ?_) tab_is rfl rfl rfl rfl ?_ ?_) ?_
      rotate_left 2
      · exact Hp.at_push_eq
      · rfl
    refine GOps.take rfl rfl ?_ ?_
    · simp; done
    refine GOps.r rfl rfl rfl rfl (grd_gtr rfl rfl rfl) ?_
    refine GOps.r rfl rfl rfl rfl (grd_pick_f rfl rfl ?_ rfl) ?_
    · exact decide_eq_false (by omega)
    refine GOps.nil ?_
    refine GWP.cond_f rfl ?_ ?_
    · exact decide_eq_false (by omega)
    refine GWP.skip ?_
    refine GWP.region ?_
    refine GOps.r rfl rfl rfl rfl (grd_move rfl rfl) ?_
    refine GOps.r rfl rfl rfl rfl (grd_add64 rfl rfl rfl ?_) ?_
    · omega
    refine GOps.r rfl rfl rfl rfl (grd_assign rfl rfl) ?_
    refine GOps.nil ?_
    refine GRounds.step ?_
    refine GWP.seq ?_
    refine GWP.seq ?_
    refine GWP.region ?_
    refine GOps.r rfl rfl rfl rfl (grd_move rfl rfl) ?_
    refine GOps.r rfl rfl rfl rfl (grd_lss rfl rfl rfl) ?_
    refine GOps.nil ?_
    refine GWP.cond_t rfl ?_ ?_
    · exact decide_eq_true (by omega)
    refine GWP.skip ?_
    refine GWP.seq ?_
    refine GWP.block ?_
    refine GWP.seq ?_
    refine GWP.region ?_
    refine GOps.r rfl rfl rfl rfl (grd_move rfl rfl) ?_
    refine GOps.r rfl rfl rfl rfl (grd_fieldAddr tab_is rfl rfl rfl rfl rfl) ?_
    refine GOps.r rfl rfl rfl rfl (grd_indexAddrA1 tab_is rfl rfl rfl rfl rfl ?_) ?_
    · simp; done
    focus
      refine GOps.r rfl rfl rfl rfl (grd_load1 (b := ?_) (v := ?_) tab_is rfl rfl rfl rfl ?_ ?_) ?_
      rotate_left 2
      · exact Hp.at_push_eq
      · rfl
    refine GOps.r rfl rfl rfl rfl (grd_lss rfl rfl rfl) ?_
    refine GOps.r rfl rfl rfl rfl (grd_move rfl rfl) ?_
    refine GOps.take rfl rfl ?_ ?_
    · simp; done
    refine GOps.r rfl rfl rfl rfl (grd_move rfl rfl) ?_
    refine GOps.take rfl rfl ?_ ?_
    · simp; done
    refine GOps.r rfl rfl rfl rfl (grd_fieldAddr tab_is rfl rfl rfl rfl rfl) ?_
    refine GOps.take rfl rfl ?_ ?_
    · simp; done
    refine GOps.r rfl rfl rfl rfl (grd_indexAddrA1 tab_is rfl rfl rfl rfl rfl ?_) ?_
    · simp; done
    refine GOps.take rfl rfl ?_ ?_
    · simp; done
    focus
      refine GOps.r rfl rfl rfl rfl (grd_load1 (b := ?_) (v := ?_) tab_is rfl rfl rfl rfl ?_ ?_) ?_
      rotate_left 2
      · exact Hp.at_push_eq
      · rfl
    refine GOps.take rfl rfl ?_ ?_
    · simp; done
    refine GOps.r rfl rfl rfl rfl (grd_gtr rfl rfl rfl) ?_
    refine GOps.r rfl rfl rfl rfl (grd_pick_f rfl rfl ?_ rfl) ?_
    · exact decide_eq_false (by omega)
    refine GOps.nil ?_
    refine GWP.cond_f rfl ?_ ?_
    · exact decide_eq_false (by omega)
    refine GWP.skip ?_
    refine GWP.region ?_
    refine GOps.r rfl rfl rfl rfl (grd_move rfl rfl) ?_
    refine GOps.r rfl rfl rfl rfl (grd_add64 rfl rfl rfl ?_) ?_
    · omega
    refine GOps.r rfl rfl rfl rfl (grd_assign rfl rfl) ?_
    refine GOps.nil ?_
    refine GRounds.step ?_
    refine GWP.seq ?_
    refine GWP.seq ?_
    refine GWP.region ?_
    refine GOps.r rfl rfl rfl rfl (grd_move rfl rfl) ?_
    refine GOps.r rfl rfl rfl rfl (grd_lss rfl rfl rfl) ?_
    refine GOps.nil ?_
    refine GWP.cond_f rfl ?_ ?_
    · exact decide_eq_false (by omega)
    refine GWP.exit ?_
    refine GWP.seq ?_
    refine GWP.seq ?_
    refine GWP.region ?_
    refine GOps.r rfl rfl rfl rfl (grd_fieldAddr tab_is rfl rfl rfl rfl rfl) ?_
    focus
      refine GOps.r rfl rfl rfl rfl (grd_load1 (b := ?_) (v := ?_) tab_is rfl rfl rfl rfl ?_ ?_) ?_
      rotate_left 2
      · exact Hp.at_push_eq
      · rfl
    refine GOps.nil ?_
    refine GWP.block ?_
    refine GWP.seq ?_
    refine GWP.seq ?_
    refine GWP.region ?_
    refine GOps.r rfl rfl rfl rfl (grd_eql rfl rfl rfl) ?_
    refine GOps.r rfl rfl rfl rfl (grd_assign rfl rfl) ?_
    refine GOps.nil ?_
    refine GWP.cond_f rfl ?_ ?_
    · exact decide_eq_false (by omega)
    refine GWP.region ?_
    refine GOps.r rfl rfl rfl rfl (grd_eql rfl rfl rfl) ?_
    refine GOps.r rfl rfl rfl rfl (grd_assign rfl rfl) ?_
    refine GOps.nil ?_
    refine GWP.cond_f rfl ?_ ?_
    · exact decide_eq_false (by omega)
    refine GWP.seq ?_
    refine GWP.region ?_
    refine GOps.r rfl rfl rfl rfl (grd_eql rfl rfl rfl) ?_
    refine GOps.r rfl rfl rfl rfl (grd_assign rfl rfl) ?_
    refine GOps.nil ?_
    refine GWP.cond_t rfl ?_ ?_
    · exact decide_eq_true (by omega)
    refine GWP.seq ?_
    refine GWP.region ?_
    refine GOps.r rfl rfl rfl rfl (grd_fieldAddr tab_is rfl rfl rfl rfl rfl) ?_
    focus
      refine GOps.r rfl rfl rfl rfl (grd_loadNK (b := ?_) (cs := ?_) tab_is rfl rfl rfl rfl ?_ ?_ ?_) ?_
      rotate_left 2
      · exact Hp.at_push_eq
      · exact Nat.le_of_ble_eq_true rfl
      · simp [Value.cells]; rfl
    focus
      refine GOps.r rfl rfl rfl rfl (grd_buildA (cs := ?_) tab_is rfl rfl rfl ?_ rfl ?_) ?_
      rotate_left 1
      · decide
      · simp [gfill, gsets, Value.cells]; rfl
    focus
      refine GOps.r rfl rfl rfl rfl (grd_aeqlK (b := ?_) tab_is rfl rfl rfl rfl rfl rfl ?_ ?_ ?_) ?_
      rotate_left 1
      · rfl
      · rfl
      · simp [lEq, cEq]; rfl
    refine GOps.r rfl rfl rfl rfl (grd_move rfl rfl) ?_
    refine GOps.take rfl rfl ?_ ?_
    · simp; done
    refine GOps.r rfl rfl rfl rfl (grd_fieldAddr tab_is rfl rfl rfl rfl rfl) ?_
    refine GOps.take rfl rfl ?_ ?_
    · simp; done
    focus
      refine GOps.r rfl rfl rfl rfl (grd_load1 (b := ?_) (v := ?_) tab_is rfl rfl rfl rfl ?_ ?_) ?_
      rotate_left 2
      · exact Hp.at_push_eq
      · rfl
    refine GOps.take rfl rfl ?_ ?_
    · simp; done
    refine GOps.r rfl rfl rfl rfl (grd_lenS tab_is rfl rfl rfl rfl rfl) ?_
    refine GOps.take rfl rfl ?_ ?_
    · simp; done
    refine GOps.r rfl rfl rfl rfl (grd_geq rfl rfl rfl) ?_
    refine GOps.r rfl rfl rfl rfl (grd_pick_t rfl rfl ?_ rfl) ?_
    · with_reducible rfl
    refine GOps.r rfl rfl rfl rfl (grd_move rfl rfl) ?_
    refine GOps.split rfl rfl (fun a1 => ?_) (fun a1 => ?_)
    simp only [beq_true, beq_false, Bool.not_true, Bool.not_false, Bool.not_eq_true', Bool.not_eq_false', decide_eq_true_eq, decide_eq_false_iff_not] at a1
    refine GOps.take rfl rfl ?_ ?_
    · exact beq_iff_eq.2 (decide_eq_true (by assumption))
    refine GOps.r rfl rfl rfl rfl (grd_fieldAddr tab_is rfl rfl rfl rfl rfl) ?_
    refine GOps.take rfl rfl ?_ ?_
    · exact beq_iff_eq.2 (decide_eq_true (by assumption))
    focus
      refine GOps.r rfl rfl rfl rfl (grd_load1 (b := ?_) (v := ?_) tab_is rfl rfl rfl rfl ?_ ?_) ?_
      rotate_left 2
      · exact Hp.at_push_eq
      · rfl
    refine GOps.take rfl rfl ?_ ?_
    · exact beq_iff_eq.2 (decide_eq_true (by assumption))
    refine GOps.r rfl rfl rfl rfl (grd_lenS tab_is rfl rfl rfl rfl rfl) ?_
    refine GOps.take rfl rfl ?_ ?_
    · exact beq_iff_eq.2 (decide_eq_true (by assumption))
    refine GOps.r rfl rfl rfl rfl (grd_leq rfl rfl rfl) ?_
    refine GOps.r rfl rfl rfl rfl (grd_pick_t rfl rfl ?_ rfl) ?_
    · exact decide_eq_true (by assumption)
    refine GOps.r rfl rfl rfl rfl (grd_assign rfl rfl) ?_
    refine GOps.nil ?_
    refine GWP.ret ?_
    refine ⟨_, .one rfl, ?_⟩
    refine ⟨?_, ?_⟩
    rotate_left 1
    refine HExt.push ?_
    · exact HExt.refl _ _
    simp only [beq_true, beq_false, Bool.not_true, Bool.not_false, Bool.not_eq_true', Bool.not_eq_false', decide_eq_true_eq, decide_eq_false_iff_not] at a1
    refine GOps.no rfl ?_ rfl rfl ?_
    · exact beq_eq_false_iff_ne.2 (by rw [decide_eq_false (by assumption)]; decide)
    refine GOps.no rfl ?_ rfl rfl ?_
    · exact beq_eq_false_iff_ne.2 (by rw [decide_eq_false (by assumption)]; decide)
    refine GOps.no rfl ?_ rfl rfl ?_
    · exact beq_eq_false_iff_ne.2 (by rw [decide_eq_false (by assumption)]; decide)
    refine GOps.no rfl ?_ rfl rfl ?_
    · exact beq_eq_false_iff_ne.2 (by rw [decide_eq_false (by assumption)]; decide)
    refine GOps.r rfl rfl rfl rfl (grd_pick_f rfl rfl ?_ rfl) ?_
    · exact decide_eq_false (by assumption)
    refine GOps.r rfl rfl rfl rfl (grd_assign rfl rfl) ?_
    refine GOps.nil ?_
    refine GWP.ret ?_
    refine ⟨_, .one rfl, ?_⟩
    refine ⟨?_, ?_⟩
    rotate_left 1
    refine HExt.push ?_
    · exact HExt.refl _ _
  · refine congrArg Value.bool ?_
    rw [decide_eq_decide]
    simp [ByteArray.size] at a1 ⊢
    omega
  · refine congrArg Value.bool (decide_eq_false ?_).symm
    simp [ByteArray.size] at a1
    omega
set_option maxHeartbeats 4000000 in
set_option maxRecDepth 100000 in
set_option linter.unusedSimpArgs false in
theorem g_rightN (H : Hp) (k a b c d e : Int) (hk : k ≠ 68) (ha : 0 ≤ a ∧ a ≤ 1073741824) (hb : 0 ≤ b ∧ b ≤ 1073741824) (hc : 0 ≤ c ∧ c ≤ 1073741824) (hd : 0 ≤ d ∧ d ≤ 1073741824) (he : 0 ≤ e ∧ e ≤ 1073741824) : GCalls Try.prog 108 [.agg #[.int .u8 k, .int .i64 a, .int .i64 b, .int .i64 c, .int .i64 d, .int .i64 e, .string ⟨([] : List UInt8).toArray⟩]] [] H fun v H' => v = .bool (decide (k = 72 ∨ k = 84)) ∧ HExt [] H H' := by
  refine GCalls.body tab_is Try.func108 rfl Try.results108 Try.ntmps108 (by simp) ?_ ?_
  · first | (intro _ h; cases h; done) | (simp; done) | (simp; omega) | (intro i hi; simp at hi; rcases hi with rfl | rfl <;> omega) | (intro i hi; simp at hi; rcases hi with rfl | rfl | rfl <;> omega)
  focus
    refine GWP.seq ?_
    refine GWP.region ?_
    focus
      refine GOps.w1 rfl rfl rfl rfl (gop_box' (id := ?_) ?_ rfl rfl rfl) ?_
      rotate_left 1
      · rfl
    refine GOps.r rfl rfl rfl rfl (grd_assign rfl rfl) ?_
    refine GOps.nil ?_
    refine GWP.seq ?_
    refine GWP.seq ?_
    refine GWP.region ?_
    refine GOps.r rfl rfl rfl rfl (grd_assign rfl rfl) ?_
    refine GOps.nil ?_
    refine GWP.block ?_
    refine GWP.loopN 6 ?_
    refine GRounds.step ?_
    refine GWP.seq ?_
    refine GWP.seq ?_
    refine GWP.region ?_
    refine GOps.r rfl rfl rfl rfl (grd_move rfl rfl) ?_
    refine GOps.r rfl rfl rfl rfl (grd_lss rfl rfl rfl) ?_
    refine GOps.nil ?_
    refine GWP.cond_t rfl ?_ ?_
    · exact decide_eq_true (by omega)
    refine GWP.skip ?_
    refine GWP.seq ?_
    refine GWP.block ?_
    refine GWP.seq ?_
    refine GWP.region ?_
    refine GOps.r rfl rfl rfl rfl (grd_move rfl rfl) ?_
    refine GOps.r rfl rfl rfl rfl (grd_fieldAddr tab_is rfl rfl rfl rfl rfl) ?_
    refine GOps.r rfl rfl rfl rfl (grd_indexAddrA1 tab_is rfl rfl rfl rfl rfl ?_) ?_
    · simp; done
    focus
      refine GOps.r rfl rfl rfl rfl (grd_load1 (b := ?_) (v := ?_) tab_is rfl rfl rfl rfl ?_ ?_) ?_
      rotate_left 2
      · exact Hp.at_push_eq
      · rfl
    refine GOps.r rfl rfl rfl rfl (grd_lss rfl rfl rfl) ?_
    refine GOps.r rfl rfl rfl rfl (grd_move rfl rfl) ?_
    refine GOps.take rfl rfl ?_ ?_
    · simp; omega
    refine GOps.r rfl rfl rfl rfl (grd_move rfl rfl) ?_
    refine GOps.take rfl rfl ?_ ?_
    · simp; omega
    refine GOps.r rfl rfl rfl rfl (grd_fieldAddr tab_is rfl rfl rfl rfl rfl) ?_
    refine GOps.take rfl rfl ?_ ?_
    · simp; omega
    refine GOps.r rfl rfl rfl rfl (grd_indexAddrA1 tab_is rfl rfl rfl rfl rfl ?_) ?_
    · simp; done
    refine GOps.take rfl rfl ?_ ?_
    · simp; omega
    focus
      refine GOps.r rfl rfl rfl rfl (grd_load1 (b := ?_) (v := ?_) tab_is rfl rfl rfl rfl ?_ ?_) ?_
      rotate_left 2
      · exact Hp.at_push_eq
      · rfl
    refine GOps.take rfl rfl ?_ ?_
    · simp; omega
    refine GOps.r rfl rfl rfl rfl (grd_gtr rfl rfl rfl) ?_
    refine GOps.r rfl rfl rfl rfl (grd_pick_f rfl rfl ?_ rfl) ?_
    · exact decide_eq_false (by omega)
    refine GOps.nil ?_
    refine GWP.cond_f rfl ?_ ?_
    · exact decide_eq_false (by omega)
    refine GWP.skip ?_
    refine GWP.region ?_
    refine GOps.r rfl rfl rfl rfl (grd_move rfl rfl) ?_
    refine GOps.r rfl rfl rfl rfl (grd_add64 rfl rfl rfl ?_) ?_
    · omega
    refine GOps.r rfl rfl rfl rfl (grd_assign rfl rfl) ?_
    refine GOps.nil ?_
    refine GRounds.step ?_
    refine GWP.seq ?_
    refine GWP.seq ?_
    refine GWP.region ?_
    refine GOps.r rfl rfl rfl rfl (grd_move rfl rfl) ?_
    refine GOps.r rfl rfl rfl rfl (grd_lss rfl rfl rfl) ?_
    refine GOps.nil ?_
    refine GWP.cond_t rfl ?_ ?_
    · exact decide_eq_true (by omega)
    refine GWP.skip ?_
    refine GWP.seq ?_
    refine GWP.block ?_
    refine GWP.seq ?_
    refine GWP.region ?_
    refine GOps.r rfl rfl rfl rfl (grd_move rfl rfl) ?_
    refine GOps.r rfl rfl rfl rfl (grd_fieldAddr tab_is rfl rfl rfl rfl rfl) ?_
    refine GOps.r rfl rfl rfl rfl (grd_indexAddrA1 tab_is rfl rfl rfl rfl rfl ?_) ?_
    · simp; done
    focus
      refine GOps.r rfl rfl rfl rfl (grd_load1 (b := ?_) (v := ?_) tab_is rfl rfl rfl rfl ?_ ?_) ?_
      rotate_left 2
      · exact Hp.at_push_eq
      · rfl
    refine GOps.r rfl rfl rfl rfl (grd_lss rfl rfl rfl) ?_
    refine GOps.r rfl rfl rfl rfl (grd_move rfl rfl) ?_
    refine GOps.take rfl rfl ?_ ?_
    · simp; omega
    refine GOps.r rfl rfl rfl rfl (grd_move rfl rfl) ?_
    refine GOps.take rfl rfl ?_ ?_
    · simp; omega
    refine GOps.r rfl rfl rfl rfl (grd_fieldAddr tab_is rfl rfl rfl rfl rfl) ?_
    refine GOps.take rfl rfl ?_ ?_
    · simp; omega
    refine GOps.r rfl rfl rfl rfl (grd_indexAddrA1 tab_is rfl rfl rfl rfl rfl ?_) ?_
    · simp; done
    refine GOps.take rfl rfl ?_ ?_
    · simp; omega
    focus
      refine GOps.r rfl rfl rfl rfl (grd_load1 (b := ?_) (v := ?_) tab_is rfl rfl rfl rfl ?_ ?_) ?_
      rotate_left 2
      · exact Hp.at_push_eq
      · rfl
    refine GOps.take rfl rfl ?_ ?_
    · simp; omega
    refine GOps.r rfl rfl rfl rfl (grd_gtr rfl rfl rfl) ?_
    refine GOps.r rfl rfl rfl rfl (grd_pick_f rfl rfl ?_ rfl) ?_
    · exact decide_eq_false (by omega)
    refine GOps.nil ?_
    refine GWP.cond_f rfl ?_ ?_
    · exact decide_eq_false (by omega)
    refine GWP.skip ?_
    refine GWP.region ?_
    refine GOps.r rfl rfl rfl rfl (grd_move rfl rfl) ?_
    refine GOps.r rfl rfl rfl rfl (grd_add64 rfl rfl rfl ?_) ?_
    · omega
    refine GOps.r rfl rfl rfl rfl (grd_assign rfl rfl) ?_
    refine GOps.nil ?_
    refine GRounds.step ?_
    refine GWP.seq ?_
    refine GWP.seq ?_
    refine GWP.region ?_
    refine GOps.r rfl rfl rfl rfl (grd_move rfl rfl) ?_
    refine GOps.r rfl rfl rfl rfl (grd_lss rfl rfl rfl) ?_
    refine GOps.nil ?_
    refine GWP.cond_t rfl ?_ ?_
    · exact decide_eq_true (by omega)
    refine GWP.skip ?_
    refine GWP.seq ?_
    refine GWP.block ?_
    refine GWP.seq ?_
    refine GWP.region ?_
    refine GOps.r rfl rfl rfl rfl (grd_move rfl rfl) ?_
    refine GOps.r rfl rfl rfl rfl (grd_fieldAddr tab_is rfl rfl rfl rfl rfl) ?_
    refine GOps.r rfl rfl rfl rfl (grd_indexAddrA1 tab_is rfl rfl rfl rfl rfl ?_) ?_
    · simp; done
    focus
      refine GOps.r rfl rfl rfl rfl (grd_load1 (b := ?_) (v := ?_) tab_is rfl rfl rfl rfl ?_ ?_) ?_
      rotate_left 2
      · exact Hp.at_push_eq
      · rfl
    refine GOps.r rfl rfl rfl rfl (grd_lss rfl rfl rfl) ?_
    refine GOps.r rfl rfl rfl rfl (grd_move rfl rfl) ?_
    refine GOps.take rfl rfl ?_ ?_
    · simp; omega
    refine GOps.r rfl rfl rfl rfl (grd_move rfl rfl) ?_
    refine GOps.take rfl rfl ?_ ?_
    · simp; omega
    refine GOps.r rfl rfl rfl rfl (grd_fieldAddr tab_is rfl rfl rfl rfl rfl) ?_
    refine GOps.take rfl rfl ?_ ?_
    · simp; omega
    refine GOps.r rfl rfl rfl rfl (grd_indexAddrA1 tab_is rfl rfl rfl rfl rfl ?_) ?_
    · simp; done
    refine GOps.take rfl rfl ?_ ?_
    · simp; omega
    focus
      refine GOps.r rfl rfl rfl rfl (grd_load1 (b := ?_) (v := ?_) tab_is rfl rfl rfl rfl ?_ ?_) ?_
      rotate_left 2
      · exact Hp.at_push_eq
      · rfl
    refine GOps.take rfl rfl ?_ ?_
    · simp; omega
    refine GOps.r rfl rfl rfl rfl (grd_gtr rfl rfl rfl) ?_
    refine GOps.r rfl rfl rfl rfl (grd_pick_f rfl rfl ?_ rfl) ?_
    · exact decide_eq_false (by omega)
    refine GOps.nil ?_
    refine GWP.cond_f rfl ?_ ?_
    · exact decide_eq_false (by omega)
    refine GWP.skip ?_
    refine GWP.region ?_
    refine GOps.r rfl rfl rfl rfl (grd_move rfl rfl) ?_
    refine GOps.r rfl rfl rfl rfl (grd_add64 rfl rfl rfl ?_) ?_
    · omega
    refine GOps.r rfl rfl rfl rfl (grd_assign rfl rfl) ?_
    refine GOps.nil ?_
    refine GRounds.step ?_
    refine GWP.seq ?_
    refine GWP.seq ?_
    refine GWP.region ?_
    refine GOps.r rfl rfl rfl rfl (grd_move rfl rfl) ?_
    refine GOps.r rfl rfl rfl rfl (grd_lss rfl rfl rfl) ?_
    refine GOps.nil ?_
    refine GWP.cond_t rfl ?_ ?_
    · exact decide_eq_true (by omega)
    refine GWP.skip ?_
    refine GWP.seq ?_
    refine GWP.block ?_
    refine GWP.seq ?_
    refine GWP.region ?_
    refine GOps.r rfl rfl rfl rfl (grd_move rfl rfl) ?_
    refine GOps.r rfl rfl rfl rfl (grd_fieldAddr tab_is rfl rfl rfl rfl rfl) ?_
    refine GOps.r rfl rfl rfl rfl (grd_indexAddrA1 tab_is rfl rfl rfl rfl rfl ?_) ?_
    · simp; done
    focus
      refine GOps.r rfl rfl rfl rfl (grd_load1 (b := ?_) (v := ?_) tab_is rfl rfl rfl rfl ?_ ?_) ?_
      rotate_left 2
      · exact Hp.at_push_eq
      · rfl
    refine GOps.r rfl rfl rfl rfl (grd_lss rfl rfl rfl) ?_
    refine GOps.r rfl rfl rfl rfl (grd_move rfl rfl) ?_
    refine GOps.take rfl rfl ?_ ?_
    · simp; omega
    refine GOps.r rfl rfl rfl rfl (grd_move rfl rfl) ?_
    refine GOps.take rfl rfl ?_ ?_
    · simp; omega
    refine GOps.r rfl rfl rfl rfl (grd_fieldAddr tab_is rfl rfl rfl rfl rfl) ?_
    refine GOps.take rfl rfl ?_ ?_
    · simp; omega
    refine GOps.r rfl rfl rfl rfl (grd_indexAddrA1 tab_is rfl rfl rfl rfl rfl ?_) ?_
    · simp; done
    refine GOps.take rfl rfl ?_ ?_
    · simp; omega
    focus
      refine GOps.r rfl rfl rfl rfl (grd_load1 (b := ?_) (v := ?_) tab_is rfl rfl rfl rfl ?_ ?_) ?_
      rotate_left 2
      · exact Hp.at_push_eq
      · rfl
    refine GOps.take rfl rfl ?_ ?_
    · simp; omega
    refine GOps.r rfl rfl rfl rfl (grd_gtr rfl rfl rfl) ?_
    refine GOps.r rfl rfl rfl rfl (grd_pick_f rfl rfl ?_ rfl) ?_
    · exact decide_eq_false (by omega)
    refine GOps.nil ?_
    refine GWP.cond_f rfl ?_ ?_
    · exact decide_eq_false (by omega)
    refine GWP.skip ?_
    refine GWP.region ?_
    refine GOps.r rfl rfl rfl rfl (grd_move rfl rfl) ?_
    refine GOps.r rfl rfl rfl rfl (grd_add64 rfl rfl rfl ?_) ?_
    · omega
    refine GOps.r rfl rfl rfl rfl (grd_assign rfl rfl) ?_
    refine GOps.nil ?_
    refine GRounds.step ?_
    refine GWP.seq ?_
    refine GWP.seq ?_
    refine GWP.region ?_
    refine GOps.r rfl rfl rfl rfl (grd_move rfl rfl) ?_
    refine GOps.r rfl rfl rfl rfl (grd_lss rfl rfl rfl) ?_
    refine GOps.nil ?_
    refine GWP.cond_t rfl ?_ ?_
    · exact decide_eq_true (by omega)
    refine GWP.skip ?_
    refine GWP.seq ?_
    refine GWP.block ?_
    refine GWP.seq ?_
    refine GWP.region ?_
    refine GOps.r rfl rfl rfl rfl (grd_move rfl rfl) ?_
    refine GOps.r rfl rfl rfl rfl (grd_fieldAddr tab_is rfl rfl rfl rfl rfl) ?_
    refine GOps.r rfl rfl rfl rfl (grd_indexAddrA1 tab_is rfl rfl rfl rfl rfl ?_) ?_
    · simp; done
    focus
      refine GOps.r rfl rfl rfl rfl (grd_load1 (b := ?_) (v := ?_) tab_is rfl rfl rfl rfl ?_ ?_) ?_
      rotate_left 2
      · exact Hp.at_push_eq
      · rfl
    refine GOps.r rfl rfl rfl rfl (grd_lss rfl rfl rfl) ?_
    refine GOps.r rfl rfl rfl rfl (grd_move rfl rfl) ?_
    refine GOps.take rfl rfl ?_ ?_
    · simp; omega
    refine GOps.r rfl rfl rfl rfl (grd_move rfl rfl) ?_
    refine GOps.take rfl rfl ?_ ?_
    · simp; omega
    refine GOps.r rfl rfl rfl rfl (grd_fieldAddr tab_is rfl rfl rfl rfl rfl) ?_
    refine GOps.take rfl rfl ?_ ?_
    · simp; omega
    refine GOps.r rfl rfl rfl rfl (grd_indexAddrA1 tab_is rfl rfl rfl rfl rfl ?_) ?_
    · simp; done
    refine GOps.take rfl rfl ?_ ?_
    · simp; omega
    focus
      refine GOps.r rfl rfl rfl rfl (grd_load1 (b := ?_) (v := ?_) tab_is rfl rfl rfl rfl ?_ ?_) ?_
      rotate_left 2
      · exact Hp.at_push_eq
      · rfl
    refine GOps.take rfl rfl ?_ ?_
    · simp; omega
    refine GOps.r rfl rfl rfl rfl (grd_gtr rfl rfl rfl) ?_
    refine GOps.r rfl rfl rfl rfl (grd_pick_f rfl rfl ?_ rfl) ?_
    · exact decide_eq_false (by omega)
    refine GOps.nil ?_
    refine GWP.cond_f rfl ?_ ?_
    · exact decide_eq_false (by omega)
    refine GWP.skip ?_
    refine GWP.region ?_
    refine GOps.r rfl rfl rfl rfl (grd_move rfl rfl) ?_
    refine GOps.r rfl rfl rfl rfl (grd_add64 rfl rfl rfl ?_) ?_
    · omega
    refine GOps.r rfl rfl rfl rfl (grd_assign rfl rfl) ?_
    refine GOps.nil ?_
    refine GRounds.step ?_
    refine GWP.seq ?_
    refine GWP.seq ?_
    refine GWP.region ?_
    refine GOps.r rfl rfl rfl rfl (grd_move rfl rfl) ?_
    refine GOps.r rfl rfl rfl rfl (grd_lss rfl rfl rfl) ?_
    refine GOps.nil ?_
    refine GWP.cond_f rfl ?_ ?_
    · exact decide_eq_false (by omega)
    refine GWP.exit ?_
    refine GWP.seq ?_
    refine GWP.seq ?_
    refine GWP.region ?_
    refine GOps.r rfl rfl rfl rfl (grd_fieldAddr tab_is rfl rfl rfl rfl rfl) ?_
    focus
      refine GOps.r rfl rfl rfl rfl (grd_load1 (b := ?_) (v := ?_) tab_is rfl rfl rfl rfl ?_ ?_) ?_
      rotate_left 2
      · exact Hp.at_push_eq
      · rfl
    refine GOps.nil ?_
    refine GWP.block ?_
    refine GWP.seq ?_
    refine GWP.seq ?_
    refine GWP.region ?_
    refine GOps.r rfl rfl rfl rfl (grd_eql rfl rfl rfl) ?_
    refine GOps.r rfl rfl rfl rfl (grd_assign rfl rfl) ?_
    refine GOps.nil ?_
    refine GWP.cond rfl (fun b1 => ?_) (fun b1 => ?_)
    simp only [beq_true, beq_false, Bool.not_true, Bool.not_false, Bool.not_eq_true', Bool.not_eq_false', decide_eq_true_eq, decide_eq_false_iff_not] at b1
    refine GWP.skip ?_
    refine GWP.cond_t rfl ?_ ?_
    · exact decide_eq_true (by assumption)
    refine GWP.seq ?_
    refine GWP.region ?_
    refine GOps.r rfl rfl rfl rfl (grd_fieldAddr tab_is rfl rfl rfl rfl rfl) ?_
    focus
      refine GOps.r rfl rfl rfl rfl (grd_load1 (b := ?_) (v := ?_) tab_is rfl rfl rfl rfl ?_ ?_) ?_
      rotate_left 2
      · exact Hp.at_push_eq
      · rfl
    refine GOps.r rfl rfl rfl rfl (grd_seql' rfl rfl rfl) ?_
    refine GOps.r rfl rfl rfl rfl (grd_assign rfl rfl) ?_
    refine GOps.nil ?_
    refine GWP.ret ?_
    refine ⟨_, .one rfl, ?_⟩
    refine ⟨?_, ?_⟩
    · (simp [*]; done)
    refine HExt.push ?_
    · exact HExt.refl _ _
    simp only [beq_true, beq_false, Bool.not_true, Bool.not_false, Bool.not_eq_true', Bool.not_eq_false', decide_eq_true_eq, decide_eq_false_iff_not] at b1
    refine GWP.region ?_
    refine GOps.r rfl rfl rfl rfl (grd_eql rfl rfl rfl) ?_
    refine GOps.r rfl rfl rfl rfl (grd_assign rfl rfl) ?_
    refine GOps.nil ?_
    refine GWP.cond rfl (fun b2 => ?_) (fun b2 => ?_)
    simp only [beq_true, beq_false, Bool.not_true, Bool.not_false, Bool.not_eq_true', Bool.not_eq_false', decide_eq_true_eq, decide_eq_false_iff_not] at b2
    refine GWP.seq ?_
    refine GWP.region ?_
    refine GOps.r rfl rfl rfl rfl (grd_fieldAddr tab_is rfl rfl rfl rfl rfl) ?_
    focus
      refine GOps.r rfl rfl rfl rfl (grd_load1 (b := ?_) (v := ?_) tab_is rfl rfl rfl rfl ?_ ?_) ?_
      rotate_left 2
      · exact Hp.at_push_eq
      · rfl
    refine GOps.r rfl rfl rfl rfl (grd_seql' rfl rfl rfl) ?_
    refine GOps.r rfl rfl rfl rfl (grd_assign rfl rfl) ?_
    refine GOps.nil ?_
    refine GWP.ret ?_
    refine ⟨_, .one rfl, ?_⟩
    refine ⟨?_, ?_⟩
    · (simp [*]; done)
    refine HExt.push ?_
    · exact HExt.refl _ _
    simp only [beq_true, beq_false, Bool.not_true, Bool.not_false, Bool.not_eq_true', Bool.not_eq_false', decide_eq_true_eq, decide_eq_false_iff_not] at b2
    refine GWP.seq ?_
    refine GWP.region ?_
    refine GOps.r rfl rfl rfl rfl (grd_eql rfl rfl rfl) ?_
    refine GOps.r rfl rfl rfl rfl (grd_assign rfl rfl) ?_
    refine GOps.nil ?_
    refine GWP.cond_f rfl ?_ ?_
    · exact decide_eq_false (by assumption)
    refine GWP.skip ?_
    refine GWP.seq ?_
    refine GWP.region ?_
    refine GOps.r rfl rfl rfl rfl (grd_assign rfl rfl) ?_
    refine GOps.nil ?_
    refine GWP.ret ?_
    refine ⟨_, .one rfl, ?_⟩
    refine ⟨?_, ?_⟩
    · (simp [*]; done)
    refine HExt.push ?_
    · exact HExt.refl _ _
set_option maxHeartbeats 4000000 in
set_option maxRecDepth 100000 in
set_option linter.unusedSimpArgs false in
theorem g_plain0 (H : Hp) : GCalls Try.prog 106 [.nilIface] [] H fun v H' => v = blkV 0 0 0 0 0 0 [] ∧ HExt [] H H' := by
  refine GCalls.body tab_is Try.func106 rfl Try.results106 Try.ntmps106 (by simp) ?_ ?_
  · first | (intro _ h; cases h; done) | (simp; done) | (simp; omega) | (intro i hi; simp at hi; rcases hi with rfl | rfl <;> omega) | (intro i hi; simp at hi; rcases hi with rfl | rfl | rfl <;> omega)
  focus
    refine GWP.seq ?_
    refine GWP.region ?_
    focus
      refine GOps.w1 rfl rfl rfl rfl (gop_alloc' (id := ?_) ?_ tab_is rfl rfl ?_) ?_
      rotate_left 1
      · rfl
      · decide
    refine GOps.nil ?_
    refine GWP.seq ?_
    refine GWP.seq ?_
    refine GWP.region ?_
    refine GOps.r rfl rfl rfl rfl (grd_move rfl rfl) ?_
    refine GOps.nil ?_
    refine GWP.block ?_
    refine GWP.seq ?_
    refine GWP.region ?_
    refine GOps.r rfl rfl rfl rfl (grd_assert0 tab_is rfl rfl rfl rfl rfl) ?_
    focus
      refine GOps.r rfl rfl rfl rfl (grd_extract (v := ?_) rfl rfl ?_) ?_
      rotate_left 1
      · simp only [List.getElem?_toArray, List.getElem?_cons_zero, List.getElem?_cons_succ]; rfl
    focus
      refine GOps.r rfl rfl rfl rfl (grd_extract (v := ?_) rfl rfl ?_) ?_
      rotate_left 1
      · simp only [List.getElem?_toArray, List.getElem?_cons_zero, List.getElem?_cons_succ]; rfl
    refine GOps.nil ?_
    refine GWP.cond_f rfl ?_ ?_
    · with_reducible rfl
    refine GWP.seq ?_
    refine GWP.region ?_
    refine GOps.r rfl rfl rfl rfl (grd_assert0 tab_is rfl rfl rfl rfl rfl) ?_
    focus
      refine GOps.r rfl rfl rfl rfl (grd_extract (v := ?_) rfl rfl ?_) ?_
      rotate_left 1
      · simp only [List.getElem?_toArray, List.getElem?_cons_zero, List.getElem?_cons_succ]; rfl
    focus
      refine GOps.r rfl rfl rfl rfl (grd_extract (v := ?_) rfl rfl ?_) ?_
      rotate_left 1
      · simp only [List.getElem?_toArray, List.getElem?_cons_zero, List.getElem?_cons_succ]; rfl
    refine GOps.nil ?_
    refine GWP.cond_f rfl ?_ ?_
    · with_reducible rfl
    refine GWP.seq ?_
    refine GWP.region ?_
    refine GOps.r rfl rfl rfl rfl (grd_assert0 tab_is rfl rfl rfl rfl rfl) ?_
    focus
      refine GOps.r rfl rfl rfl rfl (grd_extract (v := ?_) rfl rfl ?_) ?_
      rotate_left 1
      · simp only [List.getElem?_toArray, List.getElem?_cons_zero, List.getElem?_cons_succ]; rfl
    focus
      refine GOps.r rfl rfl rfl rfl (grd_extract (v := ?_) rfl rfl ?_) ?_
      rotate_left 1
      · simp only [List.getElem?_toArray, List.getElem?_cons_zero, List.getElem?_cons_succ]; rfl
    refine GOps.nil ?_
    refine GWP.cond_f rfl ?_ ?_
    · with_reducible rfl
    refine GWP.skip ?_
    refine GWP.seq ?_
    refine GWP.region ?_
    focus
      refine GOps.r rfl rfl rfl rfl (grd_build (cs := ?_) tab_is rfl rfl rfl ?_ rfl ?_) ?_
      rotate_left 1
      · decide
      · simp [gfill, gsets, Value.cells]; rfl
    focus
      refine GOps.s rfl rfl rfl (gop_storeC (b := ?_) (cs := ?_) tab_is rfl rfl ?_ rfl rfl ?_ ?_ ?_ ?_ ?_ ?_) ?_
      rotate_left 2
      · rfl
      · rfl
      · exact Hp.at_push_eq
      · rfl
      · decide
      · exact .inr (by simp)
      · simp [splice, Value.cells]; rfl
    refine GOps.nil ?_
    refine GWP.ret ?_
    focus
      refine ⟨_, (gres_cellNK (b := ?_) (cs := ?_) rfl rfl rfl ?_ ?_ ?_), ?_⟩
      rotate_left 2
      refine Hp.at_put_eq ?_
      · simp; done
      · decide
      · simp [Value.cells]; rfl
    refine ⟨?_, ?_⟩
    · rfl
    refine HExt.put ?_ ?_
    refine HExt.push ?_
    · exact HExt.refl _ _
    · exact .inr (by omega)
set_option maxHeartbeats 4000000 in
set_option maxRecDepth 100000 in
set_option linter.unusedSimpArgs false in
theorem g_plainH (H : Hp) (a b c d e : Int) : GCalls Try.prog 106 [.iface 92 (.agg #[.int .i64 a, .int .i64 b, .int .i64 c, .int .i64 d, .int .i64 e])] [] H fun v H' => v = blkV 72 a b c d e [] ∧ HExt [] H H' := by
  refine GCalls.body tab_is Try.func106 rfl Try.results106 Try.ntmps106 (by simp) ?_ ?_
  · first | (intro _ h; cases h; done) | (simp; done) | (simp; omega) | (intro i hi; simp at hi; rcases hi with rfl | rfl <;> omega) | (intro i hi; simp at hi; rcases hi with rfl | rfl | rfl <;> omega)
  focus
    refine GWP.seq ?_
    refine GWP.region ?_
    focus
      refine GOps.w1 rfl rfl rfl rfl (gop_alloc' (id := ?_) ?_ tab_is rfl rfl ?_) ?_
      rotate_left 1
      · rfl
      · decide
    refine GOps.nil ?_
    refine GWP.seq ?_
    refine GWP.seq ?_
    refine GWP.region ?_
    refine GOps.r rfl rfl rfl rfl (grd_move rfl rfl) ?_
    refine GOps.nil ?_
    refine GWP.block ?_
    refine GWP.seq ?_
    refine GWP.region ?_
    refine GOps.r rfl rfl rfl rfl (grd_assertY tab_is rfl rfl rfl rfl) ?_
    focus
      refine GOps.r rfl rfl rfl rfl (grd_extract (v := ?_) rfl rfl ?_) ?_
      rotate_left 1
      · simp only [List.getElem?_toArray, List.getElem?_cons_zero, List.getElem?_cons_succ]; rfl
    focus
      refine GOps.r rfl rfl rfl rfl (grd_extract (v := ?_) rfl rfl ?_) ?_
      rotate_left 1
      · simp only [List.getElem?_toArray, List.getElem?_cons_zero, List.getElem?_cons_succ]; rfl
    refine GOps.nil ?_
    refine GWP.cond_t rfl ?_ ?_
    · with_reducible rfl
    refine GWP.seq ?_
    refine GWP.region ?_
    focus
      refine GOps.w1 rfl rfl rfl rfl (gop_alloc' (id := ?_) ?_ tab_is rfl rfl ?_) ?_
      rotate_left 1
      · simp; rfl
      · decide
    focus
      refine GOps.s rfl rfl rfl (gop_storeC (b := ?_) (cs := ?_) tab_is rfl rfl ?_ rfl rfl ?_ ?_ ?_ ?_ ?_ ?_) ?_
      rotate_left 2
      · rfl
      · rfl
      refine Hp.at_push_id ?_
      · simp; done
      · rfl
      · exact Nat.le_of_ble_eq_true rfl
      · exact .inr (by simp)
      · simp [splice, Value.cells]; rfl
    refine GOps.nil ?_
    refine GWP.seq ?_
    refine GWP.region ?_
    refine GOps.r rfl rfl rfl rfl (grd_fieldAddr tab_is rfl rfl rfl rfl rfl) ?_
    focus
      refine GOps.r rfl rfl rfl rfl (grd_load1 (b := ?_) (v := ?_) tab_is rfl rfl rfl rfl ?_ ?_) ?_
      rotate_left 2
      refine Hp.at_put_eq ?_
      · simp; done
      · rfl
    refine GOps.r rfl rfl rfl rfl (grd_fieldAddr tab_is rfl rfl rfl rfl rfl) ?_
    focus
      refine GOps.r rfl rfl rfl rfl (grd_load1 (b := ?_) (v := ?_) tab_is rfl rfl rfl rfl ?_ ?_) ?_
      rotate_left 2
      refine Hp.at_put_eq ?_
      · simp; done
      · rfl
    refine GOps.r rfl rfl rfl rfl (grd_fieldAddr tab_is rfl rfl rfl rfl rfl) ?_
    focus
      refine GOps.r rfl rfl rfl rfl (grd_load1 (b := ?_) (v := ?_) tab_is rfl rfl rfl rfl ?_ ?_) ?_
      rotate_left 2
      refine Hp.at_put_eq ?_
      · simp; done
      · rfl
    refine GOps.r rfl rfl rfl rfl (grd_fieldAddr tab_is rfl rfl rfl rfl rfl) ?_
    focus
      refine GOps.r rfl rfl rfl rfl (grd_load1 (b := ?_) (v := ?_) tab_is rfl rfl rfl rfl ?_ ?_) ?_
      rotate_left 2
      refine Hp.at_put_eq ?_
      · simp; done
      · rfl
    refine GOps.r rfl rfl rfl rfl (grd_fieldAddr tab_is rfl rfl rfl rfl rfl) ?_
    focus
      refine GOps.r rfl rfl rfl rfl (grd_load1 (b := ?_) (v := ?_) tab_is rfl rfl rfl rfl ?_ ?_) ?_
      rotate_left 2
      refine Hp.at_put_eq ?_
      · simp; done
      · rfl
    focus
      refine GOps.r rfl rfl rfl rfl (grd_buildA (cs := ?_) tab_is rfl rfl rfl ?_ rfl ?_) ?_
      rotate_left 1
      · decide
      · simp [gfill, gsets, Value.cells]; rfl
    focus
      refine GOps.r rfl rfl rfl rfl (grd_build (cs := ?_) tab_is rfl rfl rfl ?_ rfl ?_) ?_
      rotate_left 1
      · decide
      · simp [gfill, gsets, Value.cells]; rfl
    focus
      refine GOps.s rfl rfl rfl (gop_storeC (b := ?_) (cs := ?_) tab_is rfl rfl ?_ rfl rfl ?_ ?_ ?_ ?_ ?_ ?_) ?_
      rotate_left 2
      · rfl
      · rfl
      refine (Hp.at_put_ne ?_).trans ?_
      · omega
      refine (Hp.at_push_lt ?_).trans ?_
      · simp; done
      · exact Hp.at_push_eq
      · rfl
      · exact Nat.le_of_ble_eq_true rfl
      · exact .inr (by simp)
      · simp [splice, Value.cells]; rfl
    refine GOps.nil ?_
    refine GWP.ret ?_
    focus
      refine ⟨_, (gres_cellNK (b := ?_) (cs := ?_) rfl rfl rfl ?_ ?_ ?_), ?_⟩
      rotate_left 2
      refine Hp.at_put_eq ?_
      · simp; omega
      · exact Nat.le_of_ble_eq_true rfl
      · simp [Value.cells]; rfl
    refine ⟨?_, ?_⟩
    · rfl
    refine HExt.put ?_ ?_
    refine HExt.put ?_ ?_
    refine HExt.push ?_
    refine HExt.push ?_
    · exact HExt.refl _ _
    · exact .inr (by omega)
    · exact .inr (by omega)
set_option maxHeartbeats 4000000 in
set_option maxRecDepth 100000 in
set_option linter.unusedSimpArgs false in
theorem g_plainT (H : Hp) (a b c d : Int) (l : Bool) : GCalls Try.prog 106 [.iface 94 (.agg #[.int .i64 a, .int .i64 b, .int .i64 c, .int .i64 d, .bool l])] [] H fun v H' => v = blkV 84 a b c d (if l then 1 else 0) [] ∧ HExt [] H H' := by
  cases l
  ·
    refine GCalls.body tab_is Try.func106 rfl Try.results106 Try.ntmps106 (by simp) ?_ ?_
    · first | (intro _ h; cases h; done) | (simp; done) | (simp; omega) | (intro i hi; simp at hi; rcases hi with rfl | rfl <;> omega) | (intro i hi; simp at hi; rcases hi with rfl | rfl | rfl <;> omega)
    focus
      refine GWP.seq ?_
      refine GWP.region ?_
      focus
        refine GOps.w1 rfl rfl rfl rfl (gop_alloc' (id := ?_) ?_ tab_is rfl rfl ?_) ?_
        rotate_left 1
        · rfl
        · decide
      refine GOps.nil ?_
      refine GWP.seq ?_
      refine GWP.seq ?_
      refine GWP.region ?_
      refine GOps.r rfl rfl rfl rfl (grd_move rfl rfl) ?_
      refine GOps.nil ?_
      refine GWP.block ?_
      refine GWP.seq ?_
      refine GWP.region ?_
      refine GOps.r rfl rfl rfl rfl (grd_assertN tab_is rfl rfl rfl rfl rfl (by decide)) ?_
      focus
        refine GOps.r rfl rfl rfl rfl (grd_extract (v := ?_) rfl rfl ?_) ?_
        rotate_left 1
        · simp only [List.getElem?_toArray, List.getElem?_cons_zero, List.getElem?_cons_succ]; rfl
      focus
        refine GOps.r rfl rfl rfl rfl (grd_extract (v := ?_) rfl rfl ?_) ?_
        rotate_left 1
        · simp only [List.getElem?_toArray, List.getElem?_cons_zero, List.getElem?_cons_succ]; rfl
      refine GOps.nil ?_
      refine GWP.cond_f rfl ?_ ?_
      · with_reducible rfl
      refine GWP.seq ?_
      refine GWP.region ?_
      refine GOps.r rfl rfl rfl rfl (grd_assertY tab_is rfl rfl rfl rfl) ?_
      focus
        refine GOps.r rfl rfl rfl rfl (grd_extract (v := ?_) rfl rfl ?_) ?_
        rotate_left 1
        · simp only [List.getElem?_toArray, List.getElem?_cons_zero, List.getElem?_cons_succ]; rfl
      focus
        refine GOps.r rfl rfl rfl rfl (grd_extract (v := ?_) rfl rfl ?_) ?_
        rotate_left 1
        · simp only [List.getElem?_toArray, List.getElem?_cons_zero, List.getElem?_cons_succ]; rfl
      refine GOps.nil ?_
      refine GWP.cond_t rfl ?_ ?_
      · with_reducible rfl
      refine GWP.seq ?_
      refine GWP.region ?_
      focus
        refine GOps.w1 rfl rfl rfl rfl (gop_alloc' (id := ?_) ?_ tab_is rfl rfl ?_) ?_
        rotate_left 1
        · simp; rfl
        · decide
      focus
        refine GOps.s rfl rfl rfl (gop_storeC (b := ?_) (cs := ?_) tab_is rfl rfl ?_ rfl rfl ?_ ?_ ?_ ?_ ?_ ?_) ?_
        rotate_left 2
        · rfl
        · rfl
        refine Hp.at_push_id ?_
        · simp; done
        · rfl
        · exact Nat.le_of_ble_eq_true rfl
        · exact .inr (by simp)
        · simp [splice, Value.cells]; rfl
      refine GOps.nil ?_
      refine GWP.seq ?_
      refine GWP.region ?_
      refine GOps.r rfl rfl rfl rfl (grd_assign rfl rfl) ?_
      refine GOps.nil ?_
      refine GWP.seq ?_
      refine GWP.seq ?_
      refine GWP.region ?_
      refine GOps.r rfl rfl rfl rfl (grd_fieldAddr tab_is rfl rfl rfl rfl rfl) ?_
      focus
        refine GOps.r rfl rfl rfl rfl (grd_load1 (b := ?_) (v := ?_) tab_is rfl rfl rfl rfl ?_ ?_) ?_
        rotate_left 2
        refine Hp.at_put_eq ?_
        · simp; done
        · rfl
      refine GOps.nil ?_
      refine GWP.cond_f rfl ?_ ?_
      · with_reducible rfl
      refine GWP.skip ?_
      refine GWP.seq ?_
      refine GWP.region ?_
      refine GOps.r rfl rfl rfl rfl (grd_fieldAddr tab_is rfl rfl rfl rfl rfl) ?_
      focus
        refine GOps.r rfl rfl rfl rfl (grd_load1 (b := ?_) (v := ?_) tab_is rfl rfl rfl rfl ?_ ?_) ?_
        rotate_left 2
        refine Hp.at_put_eq ?_
        · simp; done
        · rfl
      refine GOps.r rfl rfl rfl rfl (grd_fieldAddr tab_is rfl rfl rfl rfl rfl) ?_
      focus
        refine GOps.r rfl rfl rfl rfl (grd_load1 (b := ?_) (v := ?_) tab_is rfl rfl rfl rfl ?_ ?_) ?_
        rotate_left 2
        refine Hp.at_put_eq ?_
        · simp; done
        · rfl
      refine GOps.r rfl rfl rfl rfl (grd_fieldAddr tab_is rfl rfl rfl rfl rfl) ?_
      focus
        refine GOps.r rfl rfl rfl rfl (grd_load1 (b := ?_) (v := ?_) tab_is rfl rfl rfl rfl ?_ ?_) ?_
        rotate_left 2
        refine Hp.at_put_eq ?_
        · simp; done
        · rfl
      refine GOps.r rfl rfl rfl rfl (grd_fieldAddr tab_is rfl rfl rfl rfl rfl) ?_
      focus
        refine GOps.r rfl rfl rfl rfl (grd_load1 (b := ?_) (v := ?_) tab_is rfl rfl rfl rfl ?_ ?_) ?_
        rotate_left 2
        refine Hp.at_put_eq ?_
        · simp; done
        · rfl
      refine GOps.r rfl rfl rfl rfl (grd_move rfl rfl) ?_
      focus
        refine GOps.r rfl rfl rfl rfl (grd_buildA (cs := ?_) tab_is rfl rfl rfl ?_ rfl ?_) ?_
        rotate_left 1
        · decide
        · simp [gfill, gsets, Value.cells]; rfl
      focus
        refine GOps.r rfl rfl rfl rfl (grd_build (cs := ?_) tab_is rfl rfl rfl ?_ rfl ?_) ?_
        rotate_left 1
        · decide
        · simp [gfill, gsets, Value.cells]; rfl
      focus
        refine GOps.s rfl rfl rfl (gop_storeC (b := ?_) (cs := ?_) tab_is rfl rfl ?_ rfl rfl ?_ ?_ ?_ ?_ ?_ ?_) ?_
        rotate_left 2
        · rfl
        · rfl
        refine (Hp.at_put_ne ?_).trans ?_
        · omega
        refine (Hp.at_push_lt ?_).trans ?_
        · simp; done
        · exact Hp.at_push_eq
        · rfl
        · exact Nat.le_of_ble_eq_true rfl
        · exact .inr (by simp)
        · simp [splice, Value.cells]; rfl
      refine GOps.nil ?_
      refine GWP.ret ?_
      focus
        refine ⟨_, (gres_cellNK (b := ?_) (cs := ?_) rfl rfl rfl ?_ ?_ ?_), ?_⟩
        rotate_left 2
        refine Hp.at_put_eq ?_
        · simp; omega
        · exact Nat.le_of_ble_eq_true rfl
        · simp [Value.cells]; rfl
      refine ⟨?_, ?_⟩
      · rfl
      refine HExt.put ?_ ?_
      refine HExt.put ?_ ?_
      refine HExt.push ?_
      refine HExt.push ?_
      · exact HExt.refl _ _
      · exact .inr (by omega)
      · exact .inr (by omega)
  ·
    refine GCalls.body tab_is Try.func106 rfl Try.results106 Try.ntmps106 (by simp) ?_ ?_
    · first | (intro _ h; cases h; done) | (simp; done) | (simp; omega) | (intro i hi; simp at hi; rcases hi with rfl | rfl <;> omega) | (intro i hi; simp at hi; rcases hi with rfl | rfl | rfl <;> omega)
    focus
      refine GWP.seq ?_
      refine GWP.region ?_
      focus
        refine GOps.w1 rfl rfl rfl rfl (gop_alloc' (id := ?_) ?_ tab_is rfl rfl ?_) ?_
        rotate_left 1
        · rfl
        · decide
      refine GOps.nil ?_
      refine GWP.seq ?_
      refine GWP.seq ?_
      refine GWP.region ?_
      refine GOps.r rfl rfl rfl rfl (grd_move rfl rfl) ?_
      refine GOps.nil ?_
      refine GWP.block ?_
      refine GWP.seq ?_
      refine GWP.region ?_
      refine GOps.r rfl rfl rfl rfl (grd_assertN tab_is rfl rfl rfl rfl rfl (by decide)) ?_
      focus
        refine GOps.r rfl rfl rfl rfl (grd_extract (v := ?_) rfl rfl ?_) ?_
        rotate_left 1
        · simp only [List.getElem?_toArray, List.getElem?_cons_zero, List.getElem?_cons_succ]; rfl
      focus
        refine GOps.r rfl rfl rfl rfl (grd_extract (v := ?_) rfl rfl ?_) ?_
        rotate_left 1
        · simp only [List.getElem?_toArray, List.getElem?_cons_zero, List.getElem?_cons_succ]; rfl
      refine GOps.nil ?_
      refine GWP.cond_f rfl ?_ ?_
      · with_reducible rfl
      refine GWP.seq ?_
      refine GWP.region ?_
      refine GOps.r rfl rfl rfl rfl (grd_assertY tab_is rfl rfl rfl rfl) ?_
      focus
        refine GOps.r rfl rfl rfl rfl (grd_extract (v := ?_) rfl rfl ?_) ?_
        rotate_left 1
        · simp only [List.getElem?_toArray, List.getElem?_cons_zero, List.getElem?_cons_succ]; rfl
      focus
        refine GOps.r rfl rfl rfl rfl (grd_extract (v := ?_) rfl rfl ?_) ?_
        rotate_left 1
        · simp only [List.getElem?_toArray, List.getElem?_cons_zero, List.getElem?_cons_succ]; rfl
      refine GOps.nil ?_
      refine GWP.cond_t rfl ?_ ?_
      · with_reducible rfl
      refine GWP.seq ?_
      refine GWP.region ?_
      focus
        refine GOps.w1 rfl rfl rfl rfl (gop_alloc' (id := ?_) ?_ tab_is rfl rfl ?_) ?_
        rotate_left 1
        · simp; rfl
        · decide
      focus
        refine GOps.s rfl rfl rfl (gop_storeC (b := ?_) (cs := ?_) tab_is rfl rfl ?_ rfl rfl ?_ ?_ ?_ ?_ ?_ ?_) ?_
        rotate_left 2
        · rfl
        · rfl
        refine Hp.at_push_id ?_
        · simp; done
        · rfl
        · exact Nat.le_of_ble_eq_true rfl
        · exact .inr (by simp)
        · simp [splice, Value.cells]; rfl
      refine GOps.nil ?_
      refine GWP.seq ?_
      refine GWP.region ?_
      refine GOps.r rfl rfl rfl rfl (grd_assign rfl rfl) ?_
      refine GOps.nil ?_
      refine GWP.seq ?_
      refine GWP.seq ?_
      refine GWP.region ?_
      refine GOps.r rfl rfl rfl rfl (grd_fieldAddr tab_is rfl rfl rfl rfl rfl) ?_
      focus
        refine GOps.r rfl rfl rfl rfl (grd_load1 (b := ?_) (v := ?_) tab_is rfl rfl rfl rfl ?_ ?_) ?_
        rotate_left 2
        refine Hp.at_put_eq ?_
        · simp; done
        · rfl
      refine GOps.nil ?_
      refine GWP.cond_t rfl ?_ ?_
      · with_reducible rfl
      refine GWP.region ?_
      refine GOps.r rfl rfl rfl rfl (grd_assign rfl rfl) ?_
      refine GOps.nil ?_
      refine GWP.seq ?_
      refine GWP.region ?_
      refine GOps.r rfl rfl rfl rfl (grd_fieldAddr tab_is rfl rfl rfl rfl rfl) ?_
      focus
        refine GOps.r rfl rfl rfl rfl (grd_load1 (b := ?_) (v := ?_) tab_is rfl rfl rfl rfl ?_ ?_) ?_
        rotate_left 2
        refine Hp.at_put_eq ?_
        · simp; done
        · rfl
      refine GOps.r rfl rfl rfl rfl (grd_fieldAddr tab_is rfl rfl rfl rfl rfl) ?_
      focus
        refine GOps.r rfl rfl rfl rfl (grd_load1 (b := ?_) (v := ?_) tab_is rfl rfl rfl rfl ?_ ?_) ?_
        rotate_left 2
        refine Hp.at_put_eq ?_
        · simp; done
        · rfl
      refine GOps.r rfl rfl rfl rfl (grd_fieldAddr tab_is rfl rfl rfl rfl rfl) ?_
      focus
        refine GOps.r rfl rfl rfl rfl (grd_load1 (b := ?_) (v := ?_) tab_is rfl rfl rfl rfl ?_ ?_) ?_
        rotate_left 2
        refine Hp.at_put_eq ?_
        · simp; done
        · rfl
      refine GOps.r rfl rfl rfl rfl (grd_fieldAddr tab_is rfl rfl rfl rfl rfl) ?_
      focus
        refine GOps.r rfl rfl rfl rfl (grd_load1 (b := ?_) (v := ?_) tab_is rfl rfl rfl rfl ?_ ?_) ?_
        rotate_left 2
        refine Hp.at_put_eq ?_
        · simp; done
        · rfl
      refine GOps.r rfl rfl rfl rfl (grd_move rfl rfl) ?_
      focus
        refine GOps.r rfl rfl rfl rfl (grd_buildA (cs := ?_) tab_is rfl rfl rfl ?_ rfl ?_) ?_
        rotate_left 1
        · decide
        · simp [gfill, gsets, Value.cells]; rfl
      focus
        refine GOps.r rfl rfl rfl rfl (grd_build (cs := ?_) tab_is rfl rfl rfl ?_ rfl ?_) ?_
        rotate_left 1
        · decide
        · simp [gfill, gsets, Value.cells]; rfl
      focus
        refine GOps.s rfl rfl rfl (gop_storeC (b := ?_) (cs := ?_) tab_is rfl rfl ?_ rfl rfl ?_ ?_ ?_ ?_ ?_ ?_) ?_
        rotate_left 2
        · rfl
        · rfl
        refine (Hp.at_put_ne ?_).trans ?_
        · omega
        refine (Hp.at_push_lt ?_).trans ?_
        · simp; done
        · exact Hp.at_push_eq
        · rfl
        · exact Nat.le_of_ble_eq_true rfl
        · exact .inr (by simp)
        · simp [splice, Value.cells]; rfl
      refine GOps.nil ?_
      refine GWP.ret ?_
      focus
        refine ⟨_, (gres_cellNK (b := ?_) (cs := ?_) rfl rfl rfl ?_ ?_ ?_), ?_⟩
        rotate_left 2
        refine Hp.at_put_eq ?_
        · simp; omega
        · exact Nat.le_of_ble_eq_true rfl
        · simp [Value.cells]; rfl
      refine ⟨?_, ?_⟩
      · rfl
      refine HExt.put ?_ ?_
      refine HExt.put ?_ ?_
      refine HExt.push ?_
      refine HExt.push ?_
      · exact HExt.refl _ _
      · exact .inr (by omega)
      · exact .inr (by omega)
set_option maxHeartbeats 4000000 in
set_option maxRecDepth 100000 in
set_option linter.unusedSimpArgs false in
theorem g_plainD (H : Hp) (p : Option Addr) (n c : Nat) (L : List UInt8) (hb : BS H (.slice p n c) L) : GCalls Try.prog 106 [.iface 97 (.slice p n c)] [] H fun v H' => v = blkV 68 0 0 0 0 0 L ∧ HExt [] H H' := by
  refine GCalls.body tab_is Try.func106 rfl Try.results106 Try.ntmps106 (by simp) ?_ ?_
  · first | (intro _ h; cases h; done) | (simp; done) | (simp; omega) | (intro i hi; simp at hi; rcases hi with rfl | rfl <;> omega) | (intro i hi; simp at hi; rcases hi with rfl | rfl | rfl <;> omega)
  focus
    refine GWP.seq ?_
    refine GWP.region ?_
    focus
      refine GOps.w1 rfl rfl rfl rfl (gop_alloc' (id := ?_) ?_ tab_is rfl rfl ?_) ?_
      rotate_left 1
      · rfl
      · decide
    refine GOps.nil ?_
    refine GWP.seq ?_
    refine GWP.seq ?_
    refine GWP.region ?_
    refine GOps.r rfl rfl rfl rfl (grd_move rfl rfl) ?_
    refine GOps.nil ?_
    refine GWP.block ?_
    refine GWP.seq ?_
    refine GWP.region ?_
    refine GOps.r rfl rfl rfl rfl (grd_assertN tab_is rfl rfl rfl rfl rfl (by decide)) ?_
    focus
      refine GOps.r rfl rfl rfl rfl (grd_extract (v := ?_) rfl rfl ?_) ?_
      rotate_left 1
      · simp only [List.getElem?_toArray, List.getElem?_cons_zero, List.getElem?_cons_succ]; rfl
    focus
      refine GOps.r rfl rfl rfl rfl (grd_extract (v := ?_) rfl rfl ?_) ?_
      rotate_left 1
      · simp only [List.getElem?_toArray, List.getElem?_cons_zero, List.getElem?_cons_succ]; rfl
    refine GOps.nil ?_
    refine GWP.cond_f rfl ?_ ?_
    · with_reducible rfl
    refine GWP.seq ?_
    refine GWP.region ?_
    refine GOps.r rfl rfl rfl rfl (grd_assertN tab_is rfl rfl rfl rfl rfl (by decide)) ?_
    focus
      refine GOps.r rfl rfl rfl rfl (grd_extract (v := ?_) rfl rfl ?_) ?_
      rotate_left 1
      · simp only [List.getElem?_toArray, List.getElem?_cons_zero, List.getElem?_cons_succ]; rfl
    focus
      refine GOps.r rfl rfl rfl rfl (grd_extract (v := ?_) rfl rfl ?_) ?_
      rotate_left 1
      · simp only [List.getElem?_toArray, List.getElem?_cons_zero, List.getElem?_cons_succ]; rfl
    refine GOps.nil ?_
    refine GWP.cond_f rfl ?_ ?_
    · with_reducible rfl
    refine GWP.seq ?_
    refine GWP.region ?_
    refine GOps.r rfl rfl rfl rfl (grd_assertY tab_is rfl rfl rfl rfl) ?_
    focus
      refine GOps.r rfl rfl rfl rfl (grd_extract (v := ?_) rfl rfl ?_) ?_
      rotate_left 1
      · simp only [List.getElem?_toArray, List.getElem?_cons_zero, List.getElem?_cons_succ]; rfl
    focus
      refine GOps.r rfl rfl rfl rfl (grd_extract (v := ?_) rfl rfl ?_) ?_
      rotate_left 1
      · simp only [List.getElem?_toArray, List.getElem?_cons_zero, List.getElem?_cons_succ]; rfl
    refine GOps.nil ?_
    refine GWP.cond_t rfl ?_ ?_
    · with_reducible rfl
    refine GWP.seq ?_
    refine GWP.region ?_
    refine GOps.r rfl rfl rfl rfl (grd_assign rfl rfl) ?_
    refine GOps.nil ?_
    refine GWP.seq ?_
    refine GWP.region ?_
    refine GOps.r rfl rfl rfl rfl (grd_move rfl rfl) ?_
    focus
      refine GOps.re rfl rfl rfl rfl (grd_strBS (L := ?_) tab_is rfl rfl rfl rfl rfl rfl rfl rfl ?_) ?_
      rotate_left 1
      refine BS.ext (by assumption) ?_
      refine HExt.push ?_
      · exact HExt.refl _ _
    focus
      refine GOps.r rfl rfl rfl rfl (grd_build (cs := ?_) tab_is rfl rfl rfl ?_ rfl ?_) ?_
      rotate_left 1
      · decide
      · simp [gfill, gsets, Value.cells]; rfl
    focus
      refine GOps.s rfl rfl rfl (gop_storeC (b := ?_) (cs := ?_) tab_is rfl rfl ?_ rfl rfl ?_ ?_ ?_ ?_ ?_ ?_) ?_
      rotate_left 2
      · rfl
      · rfl
      · exact Hp.at_push_eq
      · rfl
      · exact Nat.le_of_ble_eq_true rfl
      · exact .inr (by simp)
      · simp [splice, Value.cells]; rfl
    refine GOps.nil ?_
    refine GWP.ret ?_
    focus
      refine ⟨_, (gres_cellNK (b := ?_) (cs := ?_) rfl rfl rfl ?_ ?_ ?_), ?_⟩
      rotate_left 2
      refine Hp.at_put_eq ?_
      · simp; done
      · exact Nat.le_of_ble_eq_true rfl
      · simp [Value.cells]; rfl
    refine ⟨?_, ?_⟩
    · rfl
    refine HExt.put ?_ ?_
    refine HExt.push ?_
    · exact HExt.refl _ _
    · exact .inr (by omega)
end Go.Proofs.Ytcbngjpihcemiaa

/- Numbers and texts as bytes, on the ghost side. -/
namespace Go.Proofs.Ytcbngjpihcemiaa
open Go.RowKit

/-- A byte in a row of its own. -/
theorem gsrc_b1 {T : Tab} {env : Env} {H : Hp} {y : Operand} {xt : TypeId} {i : TyI} {e by_ j c : Nat} {zr' zr : List Value} {b : Blk} {u : UInt8} {M : List UInt8} (ht : T xt = some i) (hd : i.d = .slice e 1 by_ zr') (hx : geval env y = some (.slice (some ⟨j, 0, none⟩) 1 c)) (hb : H.at j = some b) (_hz : b.z = 1) (hu : b.cs = [.int .u8 (u.toNat : Int)]) (hM : [u] = M) : GSrc T env H y xt 1 zr 1 (vb M) := by
  subst hM
  have := GSrc.slice (z := 1) (zr := zr) ht hd hx hb (by rw [hu]; simp)
  rw [hu] at this
  exact this
theorem bs_b1 {H : Hp} {j c : Nat} {b : Blk} {u : UInt8} {M : List UInt8} (hb : H.at j = some b) (hz : b.z = 1) (hu : b.cs = [.int .u8 (u.toNat : Int)]) (hM : [u] = M) : BS H (.slice (some ⟨j, 0, none⟩) 1 c) M := by
  subst hM
  exact bs_blk hb hz (by rw [hu]; rfl) rfl (by rw [hu]; simp) (by rw [hu]; rfl)
set_option maxHeartbeats 4000000 in
set_option maxRecDepth 100000 in
set_option linter.unusedSimpArgs false in
theorem g_clip (H : Hp) (p : Option Addr) (n c : Nat) (L : List UInt8) (hb : BS H (.slice p n c) L) : GCalls Try.prog 144 [.slice p n c] [] H fun v H' => v = .slice p n n ∧ H' = H := by
  refine GCalls.of (R := fun v => v = .slice p n n) fun μ w rargs hs hv => ?_
  obtain ⟨rv, rfl, hv2⟩ := vrs_one hv
  cases hb with
  | none =>
    cases hv2
    exact (clip_any none 0 0 w (Nat.le_refl _) (Nat.zero_le _)).mono fun e w' ⟨e1, e2⟩ => ⟨_, _, e1, rfl, .sl0, by subst e2; exact Below.refl _ _⟩
  | some hb hs' hl ho hu =>
    cases hv2 with
    | sl hL hn hm hc hu2 ha =>
      rename_i c' a M
      exact (clip_any (some a) n c' w hn hm).mono fun e w' ⟨e1, e2⟩ => ⟨_, _, e1, rfl, .sl hL (Nat.le_refl _) (by omega) (fun _ => rfl) (fun h => by unfold capU at h; unfold maxLen at hm; omega) (fun h => ha (by omega)), by subst e2; exact Below.refl _ _⟩
theorem bs_recap {H : Hp} {p : Option Addr} {n c : Nat} {L : List UInt8} (h : BS H (.slice p n c) L) : BS H (.slice p n n) L := by
  cases h with
  | none => exact .none
  | some hb hs hl ho hu => exact .some hb hs hl ho hu
theorem grd_quoU {P : Program} {o : Oper} {env : Env} {H : Hp} {x y : Operand} {t yt : TypeId} {a b : Int} (ho : o.op = .binOp .quo t x y yt) (hx : geval env x = some (.int .u64 a)) (hy : geval env y = some (.int .u64 b)) (h0 : 0 < b) (ha : 0 ≤ a ∧ a < 18446744073709551616) : GRd P o env H (.int .u64 (a / b)) [] := by
  have h1 := grd_quo (P := P) (H := H) ho hx hy (by omega)
  rw [Int.tdiv_eq_ediv_of_nonneg ha.1, IntKind.wrap_u64, Int.emod_eq_of_lt (Int.ediv_nonneg ha.1 (Int.le_of_lt h0)) (by have := Int.ediv_le_self b ha.1; omega)] at h1
  exact h1
/-- Bytes, as far as they were put. -/
def putV (p : Option Addr) (n : Nat) (o : Option Nat) (D : List UInt8) : Value := match o with
  | none => .slice p n n
  | some id => .slice (some ⟨id, 0, none⟩) D.length capU
def putI (H : Hp) (p : Option Addr) (n : Nat) (B : List UInt8) (o : Option Nat) (D : List UInt8) (H' : Hp) : Prop := match o with
  | none => D = B ∧ BS H' (.slice p n n) B ∧ HExt [] H H'
  | some id => 0 < D.length ∧ H.length ≤ id ∧ H'.at id = some ⟨5, 1, vb D, true⟩ ∧ HExt [] H H'
theorem encs_drop2 {l : List Nat} {k N : Nat} (h : l[k]? = some N) : encs (l.drop k) = enc N ++ encs (l.drop (k + 1)) := by
  obtain ⟨hk, rfl⟩ := List.getElem?_eq_some_iff.1 h
  rw [List.drop_eq_getElem_cons hk, encs_cons]
theorem low_u8 (N : Nat) : IntKind.u8.wrap (N : Int) = ((UInt8.ofNat N).toNat : Int) := by
  rw [IntKind.wrap_u8]
  simp
theorem more_u8 (N : Nat) : bits .or .u8 (IntKind.u8.wrap (N : Int)) 128 = ((UInt8.ofNat (N % 128 + 128)).toNat : Int) := by
  rw [IntKind.wrap_u8, bits_more]
  simp
  omega
theorem shr7 (N : Nat) : (N : Int).fdiv (2 ^ (min (Int.toNat 7) (IntKind.bits .u64))) = ((N / 128 : Nat) : Int) := by
  show (N : Int).fdiv (2 ^ 7) = _
  rw [Int.fdiv_eq_ediv_of_nonneg _ (by decide)]
  simp
set_option maxHeartbeats 4000000 in
set_option maxRecDepth 100000 in
set_option linter.unusedSimpArgs false in
theorem g_put (H : Hp) (p : Option Addr) (n c : Nat) (B : List UInt8) (hb : BS H (.slice p n c) B) (j cm : Nat) (l : List Nat) (t : TypeId) (rw : Bool) (cs : List Value) (hj : H.at j = some ⟨t, 1, cs, rw⟩) (hcs : cs = l.map (fun x : Nat => Value.int .u64 (x : Int))) (hlt : ∀ x ∈ l, x < 18446744073709551616) (hsz : (B ++ encs l).length ≤ 70368744177664) (hl0 : 0 < l.length) (hl1 : l.length ≤ 70368744177664) :
    GCalls Try.prog 105 [.slice p n c, .slice (some ⟨j, 0, none⟩) l.length cm] [] H fun v H' => (∃ id, v = .slice (some ⟨id, 0, none⟩) (B ++ encs l).length capU ∧ H.length ≤ id ∧ H'.at id = some ⟨5, 1, vb (B ++ encs l), true⟩) ∧ HExt [] H H' := by
  subst hcs
  have hn := hb.len
  subst hn
  have hjl := Hp.at_lt hj
  have hb2 := bs_recap hb
  generalize hT : B ++ encs l = T at hsz ⊢
  have hBT : B.length ≤ T.length := by rw [← hT, List.length_append]; omega
  refine GCalls.body tab_is Try.func105 rfl Try.results105 Try.ntmps105 (by simp) ?_ ?_
  · first | (intro _ h; cases h; done) | (simp; done) | (simp; omega) | (intro i hi; simp at hi; rcases hi with rfl | rfl <;> omega) | (intro i hi; simp at hi; rcases hi with rfl | rfl | rfl <;> omega)
  focus
    refine GWP.seq ?_
    refine GWP.region ?_
    refine GOps.r rfl rfl rfl rfl (grd_assign rfl rfl) ?_
    refine GOps.nil ?_
    refine GWP.seq ?_
    refine GWP.region ?_
    refine GOps.r rfl rfl rfl rfl (grd_move rfl rfl) ?_
    refine GOps.w1 rfl rfl rfl rfl (gop_call rfl Try.call144 rfl ?_ (g_clip H p _ c B hb)) ?_
    · intro _ h; cases h; done
    refine GOps.r rfl rfl rfl rfl (grd_assign rfl rfl) ?_
    refine GOps.nil ?_
    refine GWP.seq ?_
    refine GWP.seq ?_
    refine GWP.region ?_
    refine GOps.r rfl rfl rfl rfl (grd_move rfl rfl) ?_
    refine GOps.r rfl rfl rfl rfl (grd_len tab_is rfl rfl rfl rfl rfl) ?_
    refine GOps.r rfl rfl rfl rfl (grd_move rfl rfl) ?_
    refine GOps.nil ?_
    refine GWP.block ?_
  refine GWP.loop (α := Option Nat × List UInt8 × Nat) (fun x => [(0, putV p B.length x.1 x.2.1), (9, .slice (some ⟨j, 0, none⟩) l.length cm), (10, .int .i64 (l.length : Int)), (11, .int .i64 (x.2.2 : Int))]) (fun x H' => x.2.2 ≤ l.length ∧ x.2.1 ++ encs (l.drop x.2.2) = T ∧ (x.1 = none → x.2.2 = 0) ∧ putI H p B.length B x.1 x.2.1 H') (fun x => l.length - x.2.2) (none, B, 0) ?_ ⟨Nat.zero_le _, hT, fun _ => rfl, rfl, hb2, HExt.refl _ _⟩ ?_
  ·
    repeat (first | exact Env.sub_nil | refine Env.sub_cons rfl ?_ | (refine Env.sub_cons (congrArg some ?_) ?_; (· first | rfl | go_num | (simp; done))))
  rintro ⟨o, D, k⟩ H' ⟨hk, hD, ho, hI⟩
  simp only at hk hD ho hI ⊢
  by_cases hkl : k < l.length
  · obtain ⟨N, hN⟩ : ∃ N, l[k]? = some N := ⟨_, List.getElem?_eq_getElem hkl⟩
    have hN64 := hlt N (List.mem_of_getElem? hN)
    have hcell : (l.map (fun x : Nat => Value.int .u64 (x : Int)))[0 + k]? = some (.int .u64 (N : Int)) := by rw [Nat.zero_add, List.getElem?_map, hN]; rfl
    have hx : HExt [] H H' := by
      cases o with
      | none => exact hI.2.2
      | some id => exact hI.2.2.2
    have hxl := hx.len
    have hj' : H'.at j = some ⟨t, 1, l.map (fun x : Nat => Value.int .u64 (x : Int)), rw⟩ := (hx.eq j hjl (by intro h; cases h)).trans hj
    rw [encs_drop2 hN] at hD
    focus
      refine GWP.seq ?_
      refine GWP.region ?_
      refine GOps.r rfl rfl rfl rfl (grd_lss rfl rfl rfl) ?_
      refine GOps.nil ?_
      refine GWP.seq ?_
      refine GWP.cond_t rfl ?_ ?_
      · exact decide_eq_true (by omega)
      refine GWP.skip ?_
      refine GWP.seq ?_
      refine GWP.block ?_
      refine GWP.seq ?_
      refine GWP.region ?_
      refine GOps.r rfl rfl rfl rfl (grd_indexAddr1 tab_is rfl rfl rfl rfl rfl ?_) ?_
      · omega
      focus
        refine GOps.r rfl rfl rfl rfl (grd_load1 (b := ?_) (v := ?_) tab_is rfl rfl rfl rfl ?_ ?_) ?_
        rotate_left 2
        · assumption
        · assumption
      refine GOps.r rfl rfl rfl rfl (grd_assign rfl rfl) ?_
      refine GOps.nil ?_
      refine GWP.seq ?_
      refine GWP.block ?_
    refine GWP.loop (α := Option Nat × List UInt8 × Nat) (fun x => [(0, putV p B.length x.1 x.2.1), (6, .int .u64 (x.2.2 : Int)), (9, .slice (some ⟨j, 0, none⟩) l.length cm), (10, .int .i64 (l.length : Int)), (11, .int .i64 (k : Int))]) (fun x H2 => x.2.1 ++ (enc x.2.2 ++ encs (l.drop (k + 1))) = T ∧ x.2.2 < 18446744073709551616 ∧ putI H p B.length B x.1 x.2.1 H2) (fun x => x.2.2) (o, D, N) ?_ ⟨hD, hN64, hI⟩ ?_
    ·
      repeat (first | exact Env.sub_nil | refine Env.sub_cons rfl ?_ | (refine Env.sub_cons (congrArg some ?_) ?_; (· first | rfl | go_num | (simp; done))))
    rintro ⟨o2, D2, N2⟩ H2 ⟨hD2, hN2, hI2⟩
    simp only at hD2 hN2 hI2 ⊢
    have hlo := low_u8 N2
    have hmo := more_u8 N2
    have hdl : D2.length + 1 ≤ T.length := by
      have := enc_pos N2
      rw [← hD2, List.length_append, List.length_append]
      omega
    by_cases h128 : 128 ≤ N2
    · rw [enc_ge (by omega)] at hD2
      cases o2 with
      | none =>
        obtain ⟨rfl, hb3, hx3⟩ := hI2
        have hl3 := hx3.len
        simp only [putV]
        focus
          refine GWP.seq ?_
          refine GWP.seq ?_
          refine GWP.region ?_
          refine GOps.r rfl rfl rfl rfl (grd_move rfl rfl) ?_
          refine GOps.r rfl rfl rfl rfl (grd_geq rfl rfl rfl) ?_
          refine GOps.nil ?_
          refine GWP.cond_t rfl ?_ ?_
          · exact decide_eq_true (by omega)
          refine GWP.skip ?_
          refine GWP.seq ?_
          refine GWP.block ?_
          refine GWP.region ?_
          refine GOps.r rfl rfl rfl rfl (grd_move rfl rfl) ?_
          refine GOps.r rfl rfl rfl rfl (grd_move rfl rfl) ?_
          refine GOps.r rfl rfl rfl rfl (grd_conv tab_is rfl rfl rfl rfl rfl) ?_
          refine GOps.r rfl rfl rfl rfl (grd_bits .or (.inr (.inl rfl)) rfl rfl rfl) ?_
          focus
            refine GOps.w1 rfl rfl rfl rfl (gop_lit (id := ?_) (cs := ?_) ?_ tab_is rfl rfl rfl ?_ ?_ rfl ?_ ?_) ?_
            rotate_left 2
            · rfl
            · decide
            · decide
            · simp [gfill, gsets, Value.cells]; rfl
            · rfl
          focus
            refine GOps.w1 rfl rfl rfl rfl (gop_fullB (id := ?_) (L := ?_) (M := ?_) (K := ?_) ?_ tab_is rfl rfl rfl rfl ?_ ?_ ?_ (gsrc_b1 (b := ?_) (u := ?_) rfl rfl rfl ?_ ?_ ?_ ?_) ?_ ?_ ?_ ?_) ?_
            rotate_left 4
            · simp; rfl
            focus
              refine BS.ext (by assumption) ?_
              refine HExt.push ?_
              · exact HExt.refl _ _
            · unfold capU; omega
            · omega
            rotate_left 2
            · exact Hp.at_push_eq
            · rfl
            · exact congrArg (fun z : Int => [Value.int .u8 z]) (by assumption)
            · rfl
            · rfl
            · rfl
            · omega
            · omega
          refine GOps.r rfl rfl rfl rfl (grd_assign rfl rfl) ?_
          refine GOps.nil ?_
          refine GWP.region ?_
          refine GOps.r rfl rfl rfl rfl (grd_move rfl rfl) ?_
          refine GOps.r rfl rfl rfl rfl (grd_shr rfl rfl rfl ?_) ?_
          · omega
          refine GOps.r rfl rfl rfl rfl (grd_assign rfl rfl) ?_
          refine GOps.nil ?_
        simp only [shr7]
        refine ⟨(some (H2.length + 1), D2 ++ [UInt8.ofNat (N2 % 128 + 128)], N2 / 128), ?_, ⟨by simpa using hD2, by simp only; omega, by simp, by omega, ?_, ?_⟩, by simp only; omega⟩
        · simp only [putV, List.length_append, List.length_singleton]
          repeat (first | exact Env.sub_nil | refine Env.sub_cons rfl ?_ | (refine Env.sub_cons (congrArg some ?_) ?_; (· first | rfl | go_num | (simp; done))))
        · ((repeat (first | (refine (killO_ne ?_).trans ?_; (· (intro hq; first | (have := lt_io _ hq; first | omega | (simp; omega)) | (have := lt_ig _ hq; first | omega | (simp; omega))))) | (refine (Hp.at_put_ne ?_).trans ?_; (· (first | assumption | (exact Ne.symm (by assumption)) | omega | (simp; done) | (simp; omega)))) | (refine (Hp.at_push_lt ?_).trans ?_; (· (first | assumption | omega | (simp; done) | (simp; omega)))) | (refine (Hp.at_kill_ne ?_).trans ?_; (· (first | assumption | (exact Ne.symm (by assumption)) | omega | (simp; done) | (simp; omega)))) | (refine (HExt.eq (by assumption) _ ?_ ?_).trans ?_; (· (first | assumption | omega | (simp; done) | (simp; omega))); (· (first | (intro h; cases h; done) | (simp; done) | (simp; omega)))))); (first | assumption | exact Hp.at_push_eq | (refine Hp.at_push_id ?_; (· (first | rfl | assumption | omega | (simp; done) | (simp; omega)))) | (refine Hp.at_put_eq ?_; (· (first | assumption | omega | (simp; done) | (simp; omega)))) | (refine Hp.at_put_id ?_ ?_; (· (first | rfl | assumption | omega | (simp; done) | (simp; omega))); (· (first | assumption | omega | (simp; done) | (simp; omega))))))
        ·
          repeat (first | exact HExt.refl _ _ | assumption | refine HExt.push ?_ | (refine HExt.put ?_ ?_; rotate_left 1; (· first | (refine .inr ?_; first | omega | (simp; done) | (simp; omega)) | (refine .inl ?_; simp))) | (refine HExt.kill ?_ ?_; rotate_left 1; (· first | (refine .inr ?_; first | omega | (simp; done) | (simp; omega)) | (refine .inl ?_; simp))) | (refine HExt.tr ?_ (by assumption) ?_; rotate_left 1; (· first | (intro _ h; cases h; done) | (simp; done) | (simp; omega))))
      | some id =>
        obtain ⟨hd0, hid, hat, hx3⟩ := hI2
        have hl3 := hx3.len
        have hidl := Hp.at_lt hat
        simp only [putV]
        focus
          refine GWP.seq ?_
          refine GWP.seq ?_
          refine GWP.region ?_
          refine GOps.r rfl rfl rfl rfl (grd_move rfl rfl) ?_
          refine GOps.r rfl rfl rfl rfl (grd_geq rfl rfl rfl) ?_
          refine GOps.nil ?_
          refine GWP.cond_t rfl ?_ ?_
          · exact decide_eq_true (by omega)
          refine GWP.skip ?_
          refine GWP.seq ?_
          refine GWP.block ?_
          refine GWP.region ?_
          refine GOps.r rfl rfl rfl rfl (grd_move rfl rfl) ?_
          refine GOps.r rfl rfl rfl rfl (grd_move rfl rfl) ?_
          refine GOps.r rfl rfl rfl rfl (grd_conv tab_is rfl rfl rfl rfl rfl) ?_
          refine GOps.r rfl rfl rfl rfl (grd_bits .or (.inr (.inl rfl)) rfl rfl rfl) ?_
          focus
            refine GOps.w1 rfl rfl rfl rfl (gop_lit (id := ?_) (cs := ?_) ?_ tab_is rfl rfl rfl ?_ ?_ rfl ?_ ?_) ?_
            rotate_left 2
            · rfl
            · decide
            · decide
            · simp [gfill, gsets, Value.cells]; rfl
            · rfl
          focus
            refine GOps.w1 rfl rfl rfl rfl (gop_ownB (id := ?_) (b := ?_) (L := ?_) (M := ?_) (K := ?_) ?_ tab_is rfl rfl rfl rfl ?_ ?_ ?_ ?_ ?_ ?_ ?_ (gsrc_b1 (b := ?_) (u := ?_) rfl rfl rfl ?_ ?_ ?_ ?_) ?_ ?_ ?_ ?_) ?_
            rotate_left 5
            · simp; rfl
            refine (Hp.at_push_lt ?_).trans ?_
            · omega
            · assumption
            · rfl
            · rfl
            · rfl
            · rfl
            · omega
            · exact .inr (by omega)
            rotate_left 2
            · exact Hp.at_push_eq
            · rfl
            · exact congrArg (fun z : Int => [Value.int .u8 z]) (by assumption)
            · rfl
            · rfl
            · rfl
            · omega
            · omega
          refine GOps.r rfl rfl rfl rfl (grd_assign rfl rfl) ?_
          refine GOps.nil ?_
          refine GWP.region ?_
          refine GOps.r rfl rfl rfl rfl (grd_move rfl rfl) ?_
          refine GOps.r rfl rfl rfl rfl (grd_shr rfl rfl rfl ?_) ?_
          · omega
          refine GOps.r rfl rfl rfl rfl (grd_assign rfl rfl) ?_
          refine GOps.nil ?_
        simp only [shr7]
        refine ⟨(some (H2.length + 1), D2 ++ [UInt8.ofNat (N2 % 128 + 128)], N2 / 128), ?_, ⟨by simpa using hD2, by simp only; omega, by simp, by omega, ?_, ?_⟩, by simp only; omega⟩
        · simp only [putV, List.length_append, List.length_singleton]
          repeat (first | exact Env.sub_nil | refine Env.sub_cons rfl ?_ | (refine Env.sub_cons (congrArg some ?_) ?_; (· first | rfl | go_num | (simp; done))))
        · ((repeat (first | (refine (killO_ne ?_).trans ?_; (· (intro hq; first | (have := lt_io _ hq; first | omega | (simp; omega)) | (have := lt_ig _ hq; first | omega | (simp; omega))))) | (refine (Hp.at_put_ne ?_).trans ?_; (· (first | assumption | (exact Ne.symm (by assumption)) | omega | (simp; done) | (simp; omega)))) | (refine (Hp.at_push_lt ?_).trans ?_; (· (first | assumption | omega | (simp; done) | (simp; omega)))) | (refine (Hp.at_kill_ne ?_).trans ?_; (· (first | assumption | (exact Ne.symm (by assumption)) | omega | (simp; done) | (simp; omega)))) | (refine (HExt.eq (by assumption) _ ?_ ?_).trans ?_; (· (first | assumption | omega | (simp; done) | (simp; omega))); (· (first | (intro h; cases h; done) | (simp; done) | (simp; omega)))))); (first | assumption | exact Hp.at_push_eq | (refine Hp.at_push_id ?_; (· (first | rfl | assumption | omega | (simp; done) | (simp; omega)))) | (refine Hp.at_put_eq ?_; (· (first | assumption | omega | (simp; done) | (simp; omega)))) | (refine Hp.at_put_id ?_ ?_; (· (first | rfl | assumption | omega | (simp; done) | (simp; omega))); (· (first | assumption | omega | (simp; done) | (simp; omega))))))
        ·
          repeat (first | exact HExt.refl _ _ | assumption | refine HExt.push ?_ | (refine HExt.put ?_ ?_; rotate_left 1; (· first | (refine .inr ?_; first | omega | (simp; done) | (simp; omega)) | (refine .inl ?_; simp))) | (refine HExt.kill ?_ ?_; rotate_left 1; (· first | (refine .inr ?_; first | omega | (simp; done) | (simp; omega)) | (refine .inl ?_; simp))) | (refine HExt.tr ?_ (by assumption) ?_; rotate_left 1; (· first | (intro _ h; cases h; done) | (simp; done) | (simp; omega))))
    · rw [enc_lt (by omega)] at hD2
      rw [wrap_u8_in (by omega)] at hlo
      cases o2 with
      | none =>
        obtain ⟨rfl, hb3, hx3⟩ := hI2
        have hl3 := hx3.len
        simp only [putV]
        focus
          refine GWP.seq ?_
          refine GWP.seq ?_
          refine GWP.region ?_
          refine GOps.r rfl rfl rfl rfl (grd_move rfl rfl) ?_
          refine GOps.r rfl rfl rfl rfl (grd_geq rfl rfl rfl) ?_
          refine GOps.nil ?_
          refine GWP.cond_f rfl ?_ ?_
          · exact decide_eq_false (by omega)
          refine GWP.exit ?_
          refine GWP.region ?_
          refine GOps.r rfl rfl rfl rfl (grd_move rfl rfl) ?_
          refine GOps.r rfl rfl rfl rfl (grd_move rfl rfl) ?_
          refine GOps.r rfl rfl rfl rfl (grd_conv_in tab_is rfl rfl rfl rfl rfl ?_) ?_
          · refine wrap_u8_in ?_; omega
          focus
            refine GOps.w1 rfl rfl rfl rfl (gop_lit (id := ?_) (cs := ?_) ?_ tab_is rfl rfl rfl ?_ ?_ rfl ?_ ?_) ?_
            rotate_left 2
            · rfl
            · decide
            · decide
            · simp [gfill, gsets, Value.cells]; rfl
            · rfl
          focus
            refine GOps.w1 rfl rfl rfl rfl (gop_fullB (id := ?_) (L := ?_) (M := ?_) (K := ?_) ?_ tab_is rfl rfl rfl rfl ?_ ?_ ?_ (gsrc_b1 (b := ?_) (u := ?_) rfl rfl rfl ?_ ?_ ?_ ?_) ?_ ?_ ?_ ?_) ?_
            rotate_left 4
            · simp; rfl
            focus
              refine BS.ext (by assumption) ?_
              refine HExt.push ?_
              · exact HExt.refl _ _
            · unfold capU; omega
            · omega
            rotate_left 2
            · exact Hp.at_push_eq
            · rfl
            · exact congrArg (fun z : Int => [Value.int .u8 z]) (by assumption)
            · rfl
            · rfl
            · rfl
            · omega
            · omega
          refine GOps.r rfl rfl rfl rfl (grd_assign rfl rfl) ?_
          refine GOps.nil ?_
          refine GWP.region ?_
          refine GOps.r rfl rfl rfl rfl (grd_add64 rfl rfl rfl ?_) ?_
          · omega
          refine GOps.r rfl rfl rfl rfl (grd_move rfl rfl) ?_
          refine GOps.nil ?_
        refine ⟨(some (H2.length + 1), D2 ++ [UInt8.ofNat N2], k + 1), ?_, ⟨by simp only; omega, by simpa using hD2, by simp, by simp, by omega, ?_, ?_⟩, by simp only; omega⟩
        · simp only [putV, List.length_append, List.length_singleton]
          repeat (first | exact Env.sub_nil | refine Env.sub_cons rfl ?_ | (refine Env.sub_cons (congrArg some ?_) ?_; (· first | rfl | go_num | (simp; done))))
        · ((repeat (first | (refine (killO_ne ?_).trans ?_; (· (intro hq; first | (have := lt_io _ hq; first | omega | (simp; omega)) | (have := lt_ig _ hq; first | omega | (simp; omega))))) | (refine (Hp.at_put_ne ?_).trans ?_; (· (first | assumption | (exact Ne.symm (by assumption)) | omega | (simp; done) | (simp; omega)))) | (refine (Hp.at_push_lt ?_).trans ?_; (· (first | assumption | omega | (simp; done) | (simp; omega)))) | (refine (Hp.at_kill_ne ?_).trans ?_; (· (first | assumption | (exact Ne.symm (by assumption)) | omega | (simp; done) | (simp; omega)))) | (refine (HExt.eq (by assumption) _ ?_ ?_).trans ?_; (· (first | assumption | omega | (simp; done) | (simp; omega))); (· (first | (intro h; cases h; done) | (simp; done) | (simp; omega)))))); (first | assumption | exact Hp.at_push_eq | (refine Hp.at_push_id ?_; (· (first | rfl | assumption | omega | (simp; done) | (simp; omega)))) | (refine Hp.at_put_eq ?_; (· (first | assumption | omega | (simp; done) | (simp; omega)))) | (refine Hp.at_put_id ?_ ?_; (· (first | rfl | assumption | omega | (simp; done) | (simp; omega))); (· (first | assumption | omega | (simp; done) | (simp; omega))))))
        ·
          repeat (first | exact HExt.refl _ _ | assumption | refine HExt.push ?_ | (refine HExt.put ?_ ?_; rotate_left 1; (· first | (refine .inr ?_; first | omega | (simp; done) | (simp; omega)) | (refine .inl ?_; simp))) | (refine HExt.kill ?_ ?_; rotate_left 1; (· first | (refine .inr ?_; first | omega | (simp; done) | (simp; omega)) | (refine .inl ?_; simp))) | (refine HExt.tr ?_ (by assumption) ?_; rotate_left 1; (· first | (intro _ h; cases h; done) | (simp; done) | (simp; omega))))
      | some id =>
        obtain ⟨hd0, hid, hat, hx3⟩ := hI2
        have hl3 := hx3.len
        have hidl := Hp.at_lt hat
        simp only [putV]
        focus
          refine GWP.seq ?_
          refine GWP.seq ?_
          refine GWP.region ?_
          refine GOps.r rfl rfl rfl rfl (grd_move rfl rfl) ?_
          refine GOps.r rfl rfl rfl rfl (grd_geq rfl rfl rfl) ?_
          refine GOps.nil ?_
          refine GWP.cond_f rfl ?_ ?_
          · exact decide_eq_false (by omega)
          refine GWP.exit ?_
          refine GWP.region ?_
          refine GOps.r rfl rfl rfl rfl (grd_move rfl rfl) ?_
          refine GOps.r rfl rfl rfl rfl (grd_move rfl rfl) ?_
          refine GOps.r rfl rfl rfl rfl (grd_conv_in tab_is rfl rfl rfl rfl rfl ?_) ?_
          · refine wrap_u8_in ?_; omega
          focus
            refine GOps.w1 rfl rfl rfl rfl (gop_lit (id := ?_) (cs := ?_) ?_ tab_is rfl rfl rfl ?_ ?_ rfl ?_ ?_) ?_
            rotate_left 2
            · rfl
            · decide
            · decide
            · simp [gfill, gsets, Value.cells]; rfl
            · rfl
          focus
            refine GOps.w1 rfl rfl rfl rfl (gop_ownB (id := ?_) (b := ?_) (L := ?_) (M := ?_) (K := ?_) ?_ tab_is rfl rfl rfl rfl ?_ ?_ ?_ ?_ ?_ ?_ ?_ (gsrc_b1 (b := ?_) (u := ?_) rfl rfl rfl ?_ ?_ ?_ ?_) ?_ ?_ ?_ ?_) ?_
            rotate_left 5
            · simp; rfl
            refine (Hp.at_push_lt ?_).trans ?_
            · omega
            · assumption
            · rfl
            · rfl
            · rfl
            · rfl
            · omega
            · exact .inr (by omega)
            rotate_left 2
            · exact Hp.at_push_eq
            · rfl
            · exact congrArg (fun z : Int => [Value.int .u8 z]) (by assumption)
            · rfl
            · rfl
            · rfl
            · omega
            · omega
          refine GOps.r rfl rfl rfl rfl (grd_assign rfl rfl) ?_
          refine GOps.nil ?_
          refine GWP.region ?_
          refine GOps.r rfl rfl rfl rfl (grd_add64 rfl rfl rfl ?_) ?_
          · omega
          refine GOps.r rfl rfl rfl rfl (grd_move rfl rfl) ?_
          refine GOps.nil ?_
        refine ⟨(some (H2.length + 1), D2 ++ [UInt8.ofNat N2], k + 1), ?_, ⟨by simp only; omega, by simpa using hD2, by simp, by simp, by omega, ?_, ?_⟩, by simp only; omega⟩
        · simp only [putV, List.length_append, List.length_singleton]
          repeat (first | exact Env.sub_nil | refine Env.sub_cons rfl ?_ | (refine Env.sub_cons (congrArg some ?_) ?_; (· first | rfl | go_num | (simp; done))))
        · ((repeat (first | (refine (killO_ne ?_).trans ?_; (· (intro hq; first | (have := lt_io _ hq; first | omega | (simp; omega)) | (have := lt_ig _ hq; first | omega | (simp; omega))))) | (refine (Hp.at_put_ne ?_).trans ?_; (· (first | assumption | (exact Ne.symm (by assumption)) | omega | (simp; done) | (simp; omega)))) | (refine (Hp.at_push_lt ?_).trans ?_; (· (first | assumption | omega | (simp; done) | (simp; omega)))) | (refine (Hp.at_kill_ne ?_).trans ?_; (· (first | assumption | (exact Ne.symm (by assumption)) | omega | (simp; done) | (simp; omega)))) | (refine (HExt.eq (by assumption) _ ?_ ?_).trans ?_; (· (first | assumption | omega | (simp; done) | (simp; omega))); (· (first | (intro h; cases h; done) | (simp; done) | (simp; omega)))))); (first | assumption | exact Hp.at_push_eq | (refine Hp.at_push_id ?_; (· (first | rfl | assumption | omega | (simp; done) | (simp; omega)))) | (refine Hp.at_put_eq ?_; (· (first | assumption | omega | (simp; done) | (simp; omega)))) | (refine Hp.at_put_id ?_ ?_; (· (first | rfl | assumption | omega | (simp; done) | (simp; omega))); (· (first | assumption | omega | (simp; done) | (simp; omega))))))
        ·
          repeat (first | exact HExt.refl _ _ | assumption | refine HExt.push ?_ | (refine HExt.put ?_ ?_; rotate_left 1; (· first | (refine .inr ?_; first | omega | (simp; done) | (simp; omega)) | (refine .inl ?_; simp))) | (refine HExt.kill ?_ ?_; rotate_left 1; (· first | (refine .inr ?_; first | omega | (simp; done) | (simp; omega)) | (refine .inl ?_; simp))) | (refine HExt.tr ?_ (by assumption) ?_; rotate_left 1; (· first | (intro _ h; cases h; done) | (simp; done) | (simp; omega))))
  · obtain rfl : k = l.length := by omega
    cases o with
    | none => exact absurd (ho rfl) (by omega)
    | some id =>
      obtain ⟨hd0, hid, hat, hx3⟩ := hI
      rw [List.drop_length, encs_nil, List.append_nil] at hD
      subst hD
      simp only [putV]
      focus
        refine GWP.seq ?_
        refine GWP.region ?_
        refine GOps.r rfl rfl rfl rfl (grd_lss rfl rfl rfl) ?_
        refine GOps.nil ?_
        refine GWP.seq ?_
        refine GWP.cond_f rfl ?_ ?_
        · exact decide_eq_false (by omega)
        refine GWP.exit ?_
        refine GWP.seq ?_
        refine GWP.region ?_
        refine GOps.r rfl rfl rfl rfl (grd_move rfl rfl) ?_
        refine GOps.r rfl rfl rfl rfl (grd_assign rfl rfl) ?_
        refine GOps.nil ?_
        refine GWP.ret ?_
        refine ⟨_, .one rfl, ?_⟩
        refine ⟨?_, ?_⟩
        · exact ⟨id, rfl, hid, hat⟩
        · assumption
/-- The row that a number's bytes make. -/
def numP (H : Hp) (N : Nat) (v : Value) (H' : Hp) : Prop := (∃ id, v = .slice (some ⟨id, 0, none⟩) (enc N).length (if N < 128 then 1 else capU) ∧ H.length ≤ id ∧ H'.at id = some ⟨5, 1, vb (enc N), true⟩) ∧ HExt [] H H'
theorem numP.bs {H H' : Hp} {N : Nat} {v : Value} (h : numP H N v H') : (∃ p c, v = .slice p (enc N).length c ∧ BS H' (.slice p (enc N).length c) (enc N)) ∧ HExt [] H H' := by
  obtain ⟨⟨id, e, _, h2⟩, x⟩ := h
  exact ⟨⟨_, _, e, bs_blk h2 rfl (by rw [List.drop_zero]; exact List.take_of_length_le (by simp)) rfl (by simp) (allU8_vb _)⟩, x⟩
set_option maxHeartbeats 4000000 in
set_option maxRecDepth 100000 in
set_option linter.unusedSimpArgs false in
theorem g_refnum : ∀ (N : Nat), N < 18446744073709551616 → ∀ (H : Hp) (mi : Int), mi = (N : Int) → GCalls Try.prog 102 [.int .u64 mi] [] H (numP H N) := by
  intro N
  induction N using Nat.strongRecOn with
  | ind N ih =>
    intro hN H mi hmi
    subst hmi
    unfold numP
    have hlo := low_u8 N
    have hle := enc_le N hN
    by_cases h128 : N < 128
    · have he := enc_lt h128
      have hw := low_u8 N
      rw [wrap_u8_in (by omega)] at hw
      rw [if_pos h128, he, List.length_singleton]
      refine GCalls.body tab_is Try.func102 rfl Try.results102 Try.ntmps102 (by simp) ?_ ?_
      · first | (intro _ h; cases h; done) | (simp; done) | (simp; omega) | (intro i hi; simp at hi; rcases hi with rfl | rfl <;> omega) | (intro i hi; simp at hi; rcases hi with rfl | rfl | rfl <;> omega)
      focus
        refine GWP.seq ?_
        refine GWP.region ?_
        refine GOps.r rfl rfl rfl rfl (grd_assign rfl rfl) ?_
        refine GOps.nil ?_
        refine GWP.seq ?_
        refine GWP.seq ?_
        refine GWP.region ?_
        refine GOps.r rfl rfl rfl rfl (grd_move rfl rfl) ?_
        refine GOps.r rfl rfl rfl rfl (grd_lss rfl rfl rfl) ?_
        refine GOps.nil ?_
        refine GWP.cond_t rfl ?_ ?_
        · exact decide_eq_true (by omega)
        refine GWP.seq ?_
        refine GWP.region ?_
        refine GOps.r rfl rfl rfl rfl (grd_move rfl rfl) ?_
        refine GOps.r rfl rfl rfl rfl (grd_conv_in tab_is rfl rfl rfl rfl rfl ?_) ?_
        · refine wrap_u8_in ?_; omega
        focus
          refine GOps.w1 rfl rfl rfl rfl (gop_lit (id := ?_) (cs := ?_) ?_ tab_is rfl rfl rfl ?_ ?_ rfl ?_ ?_) ?_
          rotate_left 2
          · rfl
          · decide
          · decide
          · simp [gfill, gsets, Value.cells]; rfl
          · rfl
        refine GOps.r rfl rfl rfl rfl (grd_assign rfl rfl) ?_
        refine GOps.nil ?_
        refine GWP.ret ?_
        refine ⟨_, .one rfl, ?_⟩
        refine ⟨?_, ?_⟩
        · exact ⟨_, rfl, Nat.le_refl _, by rw [hw]; exact Hp.at_push_eq⟩
        refine HExt.push ?_
        · exact HExt.refl _ _
    · have he := enc_ge h128
      have hmo : IntKind.u8.wrap ((N : Int) % 128 + 128) = ((UInt8.ofNat (N % 128 + 128)).toNat : Int) := by
        rw [IntKind.wrap_u8]
        simp
      have ih2 := fun H mi hm => (ih (N / 128) (by omega) (by omega) H mi hm).mono fun v H' h => h.bs
      have hl2 : (enc (N / 128)).length + 1 = (enc N).length := by rw [he]; rfl
      have hp2 := enc_pos (N / 128)
      clear ih
      rw [if_neg h128]
      refine GCalls.body tab_is Try.func102 rfl Try.results102 Try.ntmps102 (by simp) ?_ ?_
      · first | (intro _ h; cases h; done) | (simp; done) | (simp; omega) | (intro i hi; simp at hi; rcases hi with rfl | rfl <;> omega) | (intro i hi; simp at hi; rcases hi with rfl | rfl | rfl <;> omega)
      focus
        refine GWP.seq ?_
        refine GWP.region ?_
        refine GOps.r rfl rfl rfl rfl (grd_assign rfl rfl) ?_
        refine GOps.nil ?_
        refine GWP.seq ?_
        refine GWP.seq ?_
        refine GWP.region ?_
        refine GOps.r rfl rfl rfl rfl (grd_move rfl rfl) ?_
        refine GOps.r rfl rfl rfl rfl (grd_lss rfl rfl rfl) ?_
        refine GOps.nil ?_
        refine GWP.cond_f rfl ?_ ?_
        · exact decide_eq_false (by omega)
        refine GWP.skip ?_
        refine GWP.seq ?_
        refine GWP.region ?_
        refine GOps.r rfl rfl rfl rfl (grd_move rfl rfl) ?_
        refine GOps.r rfl rfl rfl rfl (grd_rem64 rfl rfl rfl ?_ ?_) ?_
        · omega
        · omega
        refine GOps.r rfl rfl rfl rfl (grd_conv_in tab_is rfl rfl rfl rfl rfl ?_) ?_
        · refine wrap_u8_in ?_; omega
        refine GOps.r rfl rfl rfl rfl (grd_add rfl rfl rfl) ?_
        focus
          refine GOps.w1 rfl rfl rfl rfl (gop_lit (id := ?_) (cs := ?_) ?_ tab_is rfl rfl rfl ?_ ?_ rfl ?_ ?_) ?_
          rotate_left 2
          · rfl
          · decide
          · decide
          · simp [gfill, gsets, Value.cells]; rfl
          · rfl
        refine GOps.r rfl rfl rfl rfl (grd_move rfl rfl) ?_
        refine GOps.r rfl rfl rfl rfl (grd_quoU rfl rfl rfl ?_ ?_) ?_
        · omega
        · omega
        refine GOps.w rfl rfl rfl rfl (gop_call rfl Try.call102 rfl ?_ (ih2 _ _ ?_)) ?_
        · intro _ h; cases h; done
        · omega
        rintro _ Hxi4 ⟨⟨pi1, ci2, rfl, bi3⟩, xi4⟩
        have xi4l := HExt.len xi4; try simp at xi4l
        focus
          refine GOps.w1 rfl rfl rfl rfl (gop_fullB (id := ?_) (L := ?_) (M := ?_) (K := ?_) ?_ tab_is rfl rfl rfl rfl ?_ ?_ ?_ (gsrc_bs rfl rfl rfl ?_) ?_ ?_ ?_ ?_) ?_
          rotate_left 4
          · rfl
          refine bs_b1 (b := ?_) (u := ?_) ?_ ?_ ?_ ?_
          rotate_left 2
          refine (HExt.eq (by assumption) _ ?_ ?_).trans ?_
          · simp; done
          · intro h; cases h; done
          · exact Hp.at_push_eq
          · rfl
          · exact congrArg (fun z : Int => [Value.int .u8 z]) (by assumption)
          · rfl
          · decide
          · omega
          · assumption
          · exact BS.len (by assumption)
          · rfl
          · omega
          · omega
        refine GOps.r rfl rfl rfl rfl (grd_assign rfl rfl) ?_
        refine GOps.nil ?_
        refine GWP.ret ?_
        refine ⟨_, .one rfl, ?_⟩
        refine ⟨?_, ?_⟩
        rotate_left 1
        refine HExt.push ?_
        refine HExt.tr ?_ (by assumption) ?_
        refine HExt.push ?_
        · exact HExt.refl _ _
        · intro _ h; cases h; done
      exact ⟨_, congrArg (fun m => Value.slice (some ⟨_, 0, none⟩) m capU) (by omega), by omega, by rw [he]; exact Hp.at_push_eq⟩
set_option maxHeartbeats 4000000 in
set_option maxRecDepth 100000 in
set_option linter.unusedSimpArgs false in
theorem g_seal (H : Hp) (p : Option Addr) (n c : Nat) (L : List UInt8) (hb : BS H (.slice p n c) L) (hn : n ≤ 35184372088832) : GCalls Try.prog 104 [.slice p n c] [] H (fun v H' => ∃ p' c', v = .slice p' (n + 4) c' ∧ BS H' (.slice p' (n + 4) c') (sealL L) ∧ HExt [] H H') :=
  (GCalls.own1 hb (by omega) fun A c' w h1 h2 h3 h4 h5 => seal_any A n c' L w h1 h2 h3 h4 h5 hn).mono fun v H' ⟨e1, e2⟩ => by
    subst e1 e2
    exact ⟨_, _, rfl, bs_push rfl (by rw [sealL_length, hb.len]), (HExt.refl _ _).push⟩
end Go.Proofs.Ytcbngjpihcemiaa

/- Bytes in rows, found by the walk. -/
namespace Go.Proofs.Ytcbngjpihcemiaa
open Go.RowKit

theorem bs_noneE {H : Hp} {L : List UInt8} (h : [] = L) : BS H (.slice none 0 0) L := by
  subst h
  exact .none
theorem bs_row {H : Hp} {j n c : Nat} {b : Blk} {L : List UInt8} (hb : H.at j = some b) (hz : b.z = 1) (hcs : b.cs = vb L) (hn : n = L.length) : BS H (.slice (some ⟨j, 0, none⟩) n c) L := by
  subst hn
  exact bs_blk hb hz (by rw [hcs, List.drop_zero]; exact List.take_of_length_le (by simp)) rfl (by rw [hcs]; simp) (by rw [hcs]; exact allU8_vb _)
theorem gsrc_strM {T : Tab} {env : Env} {H : Hp} {y : Operand} {xt : TypeId} {i : TyI} {zr : List Value} {L M : List UInt8} (ht : T xt = some i) (hd : i.d = .str) (hx : geval env y = some (.string ⟨L.toArray⟩)) (hM : L = M) : GSrc T env H y xt 1 zr L.length (vb M) := by
  subst hM
  exact GSrc.str (s := ⟨L.toArray⟩) rfl ht hd hx
end Go.Proofs.Ytcbngjpihcemiaa
