/- Records out of bytes: the program's. -/
import Derived.Test.YtjlimdiimdihfaaZz2
import Derived.Test.YtjlimdiimdihfaaZz1
import Derived.StillTail
namespace Go.Proofs.Ytjlimdiimdihfaa
open Go.RowKit

/-- A record's cells, with its blocks' slice. -/
def recV (k id base fr to_ : Int) (s : Value) (cnt len sum : Int) : Value := .agg #[.int .u8 k, .int .i64 id, .int .i64 base, .int .i64 fr, .int .i64 to_, s, .int .i64 cnt, .int .u64 len, .int .u64 sum]
def dataOk (f n : Nat) : Prop := 1 ≤ n / 32 ∧ n / 32 ≤ 4 ∧ n % 32 = 0 ∧ f + n / 32 ≤ 256
set_option maxHeartbeats 4000000 in
set_option maxRecDepth 100000 in
set_option linter.unusedSimpArgs false in
theorem g_rdata (H : Hp) (f : Nat) (hf : f < 256) (p : Option Addr) (n c : Nat) (_hn : n ≤ 35184372088832) (hok : dataOk f n) : GCalls Try.prog 55 [.int .i64 (f : Int), .slice p n c] [] H fun v H' => v = .tuple #[recV 2 0 0 f ((f + n / 32 : Nat) : Int) (.slice p n c) 0 0 0, .int .i64 0] ∧ HExt [] H H' := by
  obtain ⟨h1, h2, h3, h4⟩ := hok
  refine GCalls.body tab_is Try.func55 rfl Try.results55 Try.ntmps55 (by simp) ?_ ?_
  · first | (intro _ h; cases h; done) | (simp; done) | (simp; omega) | (intro i hi; simp at hi; rcases hi with rfl | rfl <;> omega) | (intro i hi; simp at hi; rcases hi with rfl | rfl | rfl <;> omega)
  focus
    refine GWP.seq ?_
    refine GWP.region ?_
    focus
      refine GOps.w1 rfl rfl rfl rfl (gop_alloc' (id := ?_) ?_ tab_is rfl rfl ?_) ?_
      rotate_left 1
      · rfl
      · decide
    refine GOps.r rfl rfl rfl rfl (grd_assign rfl rfl) ?_
    refine GOps.nil ?_
    refine GWP.seq ?_
    refine GWP.region ?_
    refine GOps.r rfl rfl rfl rfl (grd_move rfl rfl) ?_
    refine GOps.r rfl rfl rfl rfl (grd_len tab_is rfl rfl rfl rfl rfl) ?_
    refine GOps.r rfl rfl rfl rfl (grd_quo64 rfl rfl rfl ?_ ?_) ?_
    · omega
    · omega
    refine GOps.r rfl rfl rfl rfl (grd_assign rfl rfl) ?_
    refine GOps.nil ?_
    refine GWP.seq ?_
    refine GWP.seq ?_
    refine GWP.region ?_
    refine GOps.r rfl rfl rfl rfl (grd_move rfl rfl) ?_
    refine GOps.r rfl rfl rfl rfl (grd_lss rfl rfl rfl) ?_
    refine GOps.r rfl rfl rfl rfl (grd_move rfl rfl) ?_
    refine GOps.take rfl rfl ?_ ?_
    · simp; omega
    refine GOps.r rfl rfl rfl rfl (grd_move rfl rfl) ?_
    refine GOps.take rfl rfl ?_ ?_
    · simp; omega
    refine GOps.r rfl rfl rfl rfl (grd_gtr rfl rfl rfl) ?_
    refine GOps.r rfl rfl rfl rfl (grd_pick_f rfl rfl ?_ rfl) ?_
    · exact decide_eq_false (by omega)
    refine GOps.r rfl rfl rfl rfl (grd_move rfl rfl) ?_
    refine GOps.take rfl rfl ?_ ?_
    · simp; omega
    refine GOps.r rfl rfl rfl rfl (grd_move rfl rfl) ?_
    refine GOps.take rfl rfl ?_ ?_
    · simp; omega
    refine GOps.r rfl rfl rfl rfl (grd_len tab_is rfl rfl rfl rfl rfl) ?_
    refine GOps.take rfl rfl ?_ ?_
    · simp; omega
    refine GOps.r rfl rfl rfl rfl (grd_rem64 rfl rfl rfl ?_ ?_) ?_
    · omega
    · omega
    refine GOps.take rfl rfl ?_ ?_
    · simp; omega
    refine GOps.r rfl rfl rfl rfl (grd_neq rfl rfl rfl) ?_
    refine GOps.r rfl rfl rfl rfl (grd_pick_f rfl rfl ?_ rfl) ?_
    · exact decide_eq_false (by omega)
    refine GOps.r rfl rfl rfl rfl (grd_move rfl rfl) ?_
    refine GOps.take rfl rfl ?_ ?_
    · simp; omega
    refine GOps.r rfl rfl rfl rfl (grd_move rfl rfl) ?_
    refine GOps.take rfl rfl ?_ ?_
    · simp; omega
    refine GOps.r rfl rfl rfl rfl (grd_move rfl rfl) ?_
    refine GOps.take rfl rfl ?_ ?_
    · simp; omega
    refine GOps.r rfl rfl rfl rfl (grd_add64 rfl rfl rfl ?_) ?_
    · omega
    refine GOps.take rfl rfl ?_ ?_
    · simp; omega
    refine GOps.r rfl rfl rfl rfl (grd_gtr rfl rfl rfl) ?_
    refine GOps.r rfl rfl rfl rfl (grd_pick_f rfl rfl ?_ rfl) ?_
    · exact decide_eq_false (by omega)
    refine GOps.nil ?_
    refine GWP.cond_f rfl ?_ ?_
    · exact decide_eq_false (by omega)
    refine GWP.skip ?_
    refine GWP.seq ?_
    refine GWP.region ?_
    refine GOps.r rfl rfl rfl rfl (grd_move rfl rfl) ?_
    refine GOps.r rfl rfl rfl rfl (grd_move rfl rfl) ?_
    refine GOps.r rfl rfl rfl rfl (grd_move rfl rfl) ?_
    refine GOps.r rfl rfl rfl rfl (grd_add64 rfl rfl rfl ?_) ?_
    · omega
    focus
      refine GOps.r rfl rfl rfl rfl (grd_build (cs := ?_) tab_is rfl rfl rfl ?_ rfl ?_) ?_
      rotate_left 1
      · decide
      · simp [gfill, gsets, Value.cells]; rfl
    refine GOps.r rfl rfl rfl rfl (grd_move rfl rfl) ?_
    focus
      refine GOps.r rfl rfl rfl rfl (grd_build (cs := ?_) tab_is rfl rfl rfl ?_ rfl ?_) ?_
      rotate_left 1
      · decide
      · simp [gfill, gsets, Value.cells]; rfl
    focus
      refine GOps.s rfl rfl rfl (gop_storeC (b := ?_) (cs := ?_) tab_is rfl rfl ?_ rfl rfl ?_ ?_ ?_ ?_ ?_ ?_) ?_
      rotate_left 2
      · rfl
      · rfl
      · exact Hp.at_push_eq
      · rfl
      · exact Nat.le_of_ble_eq_true rfl
      · exact .inr (by simp)
      · simp [splice, Value.cells]; rfl
    refine GOps.r rfl rfl rfl rfl (grd_assign rfl rfl) ?_
    refine GOps.nil ?_
    refine GWP.ret ?_
    focus
      refine ⟨_, (.two (gres_cellNK (b := ?_) (cs := ?_) rfl rfl rfl ?_ ?_ ?_) (.one rfl)), ?_⟩
      rotate_left 2
      refine Hp.at_put_eq ?_
      · simp; done
      · exact Nat.le_of_ble_eq_true rfl
      · simp [Value.cells]; rfl
    refine ⟨?_, ?_⟩
    · rfl
    refine HExt.put ?_ ?_
    refine HExt.push ?_
    · exact HExt.refl _ _
    · exact .inr (by omega)
set_option maxHeartbeats 4000000 in
set_option maxRecDepth 100000 in
set_option linter.unusedSimpArgs false in
theorem g_rdata_no (H : Hp) (f : Nat) (hf : f < 256) (p : Option Addr) (n c : Nat) (hn : n ≤ 35184372088832) (hok : ¬ dataOk f n) : GCalls Try.prog 55 [.int .i64 (f : Int), .slice p n c] [] H fun v H' => v = .tuple #[recV 0 0 0 0 0 (.slice none 0 0) 0 0 0, .int .i64 3] ∧ HExt [] H H' := by
  unfold dataOk at hok
  refine GCalls.body tab_is Try.func55 rfl Try.results55 Try.ntmps55 (by simp) ?_ ?_
  · first | (intro _ h; cases h; done) | (simp; done) | (simp; omega) | (intro i hi; simp at hi; rcases hi with rfl | rfl <;> omega) | (intro i hi; simp at hi; rcases hi with rfl | rfl | rfl <;> omega)
  focus
    refine GWP.seq ?_
    refine GWP.region ?_
    focus
      refine GOps.w1 rfl rfl rfl rfl (gop_alloc' (id := ?_) ?_ tab_is rfl rfl ?_) ?_
      rotate_left 1
      · rfl
      · decide
    refine GOps.r rfl rfl rfl rfl (grd_assign rfl rfl) ?_
    refine GOps.nil ?_
    refine GWP.seq ?_
    refine GWP.region ?_
    refine GOps.r rfl rfl rfl rfl (grd_move rfl rfl) ?_
    refine GOps.r rfl rfl rfl rfl (grd_len tab_is rfl rfl rfl rfl rfl) ?_
    refine GOps.r rfl rfl rfl rfl (grd_quo64 rfl rfl rfl ?_ ?_) ?_
    · omega
    · omega
    refine GOps.r rfl rfl rfl rfl (grd_assign rfl rfl) ?_
    refine GOps.nil ?_
    refine GWP.seq ?_
    refine GWP.seq ?_
    refine GWP.region ?_
    refine GOps.r rfl rfl rfl rfl (grd_move rfl rfl) ?_
    refine GOps.r rfl rfl rfl rfl (grd_lss rfl rfl rfl) ?_
    refine GOps.r rfl rfl rfl rfl (grd_move rfl rfl) ?_
    refine GOps.split rfl rfl (fun b1 => ?_) (fun b1 => ?_)
    simp only [beq_true, beq_false, Bool.not_true, Bool.not_false, Bool.not_eq_true', Bool.not_eq_false', decide_eq_true_eq, decide_eq_false_iff_not] at b1
    refine GOps.take rfl rfl ?_ ?_
    · exact beq_iff_eq.2 (decide_eq_false (by assumption))
    refine GOps.r rfl rfl rfl rfl (grd_move rfl rfl) ?_
    refine GOps.take rfl rfl ?_ ?_
    · exact beq_iff_eq.2 (decide_eq_false (by assumption))
    refine GOps.r rfl rfl rfl rfl (grd_gtr rfl rfl rfl) ?_
    refine GOps.r rfl rfl rfl rfl (grd_pick_f rfl rfl ?_ rfl) ?_
    · exact decide_eq_false (by assumption)
    refine GOps.r rfl rfl rfl rfl (grd_move rfl rfl) ?_
    refine GOps.split rfl rfl (fun b2 => ?_) (fun b2 => ?_)
    simp only [beq_true, beq_false, Bool.not_true, Bool.not_false, Bool.not_eq_true', Bool.not_eq_false', decide_eq_true_eq, decide_eq_false_iff_not] at b2
    refine GOps.take rfl rfl ?_ ?_
    · exact beq_iff_eq.2 (decide_eq_false (by assumption))
    refine GOps.r rfl rfl rfl rfl (grd_move rfl rfl) ?_
    refine GOps.take rfl rfl ?_ ?_
    · exact beq_iff_eq.2 (decide_eq_false (by assumption))
    refine GOps.r rfl rfl rfl rfl (grd_len tab_is rfl rfl rfl rfl rfl) ?_
    refine GOps.take rfl rfl ?_ ?_
    · exact beq_iff_eq.2 (decide_eq_false (by assumption))
    refine GOps.r rfl rfl rfl rfl (grd_rem64 rfl rfl rfl ?_ ?_) ?_
    · omega
    · omega
    refine GOps.take rfl rfl ?_ ?_
    · exact beq_iff_eq.2 (decide_eq_false (by assumption))
    refine GOps.r rfl rfl rfl rfl (grd_neq rfl rfl rfl) ?_
    refine GOps.r rfl rfl rfl rfl (grd_pick_f rfl rfl ?_ rfl) ?_
    · exact decide_eq_false (by assumption)
    refine GOps.r rfl rfl rfl rfl (grd_move rfl rfl) ?_
    refine GOps.split rfl rfl (fun b3 => ?_) (fun b3 => ?_)
    simp only [beq_true, beq_false, Bool.not_true, Bool.not_false, Bool.not_eq_true', Bool.not_eq_false', decide_eq_true_eq, decide_eq_false_iff_not] at b3
    refine GOps.take rfl rfl ?_ ?_
    · exact beq_iff_eq.2 (decide_eq_false (by assumption))
    refine GOps.r rfl rfl rfl rfl (grd_move rfl rfl) ?_
    refine GOps.take rfl rfl ?_ ?_
    · exact beq_iff_eq.2 (decide_eq_false (by assumption))
    refine GOps.r rfl rfl rfl rfl (grd_move rfl rfl) ?_
    refine GOps.take rfl rfl ?_ ?_
    · exact beq_iff_eq.2 (decide_eq_false (by assumption))
    refine GOps.r rfl rfl rfl rfl (grd_add64 rfl rfl rfl ?_) ?_
    · omega
    refine GOps.take rfl rfl ?_ ?_
    · exact beq_iff_eq.2 (decide_eq_false (by assumption))
    refine GOps.r rfl rfl rfl rfl (grd_gtr rfl rfl rfl) ?_
    refine GOps.r rfl rfl rfl rfl (grd_pick_f rfl rfl ?_ rfl) ?_
    · exact decide_eq_false (by assumption)
    refine GOps.nil ?_
    refine GWP.cond_t rfl ?_ ?_
    · exact decide_eq_true (by omega)
    refine GWP.seq ?_
    refine GWP.region ?_
    focus
      refine GOps.r rfl rfl rfl rfl (grd_build (cs := ?_) tab_is rfl rfl rfl ?_ rfl ?_) ?_
      rotate_left 1
      · decide
      · simp [gfill, gsets, Value.cells]; rfl
    focus
      refine GOps.s rfl rfl rfl (gop_storeC (b := ?_) (cs := ?_) tab_is rfl rfl ?_ rfl rfl ?_ ?_ ?_ ?_ ?_ ?_) ?_
      rotate_left 2
      · rfl
      · rfl
      · exact Hp.at_push_eq
      · rfl
      · decide
      · exact .inr (by simp)
      · simp [splice, Value.cells]; rfl
    refine GOps.r rfl rfl rfl rfl (grd_assign rfl rfl) ?_
    refine GOps.nil ?_
    refine GWP.ret ?_
    focus
      refine ⟨_, (.two (gres_cellNK (b := ?_) (cs := ?_) rfl rfl rfl ?_ ?_ ?_) (.one rfl)), ?_⟩
      rotate_left 2
      refine Hp.at_put_eq ?_
      · simp; done
      · decide
      · simp [Value.cells]; rfl
    refine ⟨?_, ?_⟩
    · rfl
    refine HExt.put ?_ ?_
    refine HExt.push ?_
    · exact HExt.refl _ _
    · exact .inr (by omega)
    simp only [beq_true, beq_false, Bool.not_true, Bool.not_false, Bool.not_eq_true', Bool.not_eq_false', decide_eq_true_eq, decide_eq_false_iff_not] at b3
    refine GOps.no rfl ?_ rfl rfl ?_
    · exact beq_eq_false_iff_ne.2 (by rw [decide_eq_true (by assumption)]; decide)
    refine GOps.no rfl ?_ rfl rfl ?_
    · exact beq_eq_false_iff_ne.2 (by rw [decide_eq_true (by assumption)]; decide)
    refine GOps.no rfl ?_ rfl rfl ?_
    · exact beq_eq_false_iff_ne.2 (by rw [decide_eq_true (by assumption)]; decide)
    refine GOps.no rfl ?_ rfl rfl ?_
    · exact beq_eq_false_iff_ne.2 (by rw [decide_eq_true (by assumption)]; decide)
    refine GOps.r rfl rfl rfl rfl (grd_pick_t rfl rfl ?_ rfl) ?_
    · exact decide_eq_true (by assumption)
    refine GOps.nil ?_
    refine GWP.cond_t rfl ?_ ?_
    · with_reducible rfl
    refine GWP.seq ?_
    refine GWP.region ?_
    focus
      refine GOps.r rfl rfl rfl rfl (grd_build (cs := ?_) tab_is rfl rfl rfl ?_ rfl ?_) ?_
      rotate_left 1
      · decide
      · simp [gfill, gsets, Value.cells]; rfl
    focus
      refine GOps.s rfl rfl rfl (gop_storeC (b := ?_) (cs := ?_) tab_is rfl rfl ?_ rfl rfl ?_ ?_ ?_ ?_ ?_ ?_) ?_
      rotate_left 2
      · rfl
      · rfl
      · exact Hp.at_push_eq
      · rfl
      · decide
      · exact .inr (by simp)
      · simp [splice, Value.cells]; rfl
    refine GOps.r rfl rfl rfl rfl (grd_assign rfl rfl) ?_
    refine GOps.nil ?_
    refine GWP.ret ?_
    focus
      refine ⟨_, (.two (gres_cellNK (b := ?_) (cs := ?_) rfl rfl rfl ?_ ?_ ?_) (.one rfl)), ?_⟩
      rotate_left 2
      refine Hp.at_put_eq ?_
      · simp; done
      · decide
      · simp [Value.cells]; rfl
    refine ⟨?_, ?_⟩
    · rfl
    refine HExt.put ?_ ?_
    refine HExt.push ?_
    · exact HExt.refl _ _
    · exact .inr (by omega)
    simp only [beq_true, beq_false, Bool.not_true, Bool.not_false, Bool.not_eq_true', Bool.not_eq_false', decide_eq_true_eq, decide_eq_false_iff_not] at b2
    refine GOps.no rfl ?_ rfl rfl ?_
    · exact beq_eq_false_iff_ne.2 (by rw [decide_eq_true (by assumption)]; decide)
    refine GOps.no rfl ?_ rfl rfl ?_
    · exact beq_eq_false_iff_ne.2 (by rw [decide_eq_true (by assumption)]; decide)
    refine GOps.no rfl ?_ rfl rfl ?_
    · exact beq_eq_false_iff_ne.2 (by rw [decide_eq_true (by assumption)]; decide)
    refine GOps.no rfl ?_ rfl rfl ?_
    · exact beq_eq_false_iff_ne.2 (by rw [decide_eq_true (by assumption)]; decide)
    refine GOps.r rfl rfl rfl rfl (grd_pick_t rfl rfl ?_ rfl) ?_
    · exact decide_eq_true (by assumption)
    refine GOps.r rfl rfl rfl rfl (grd_move rfl rfl) ?_
    refine GOps.no rfl ?_ rfl rfl ?_
    · simp; done
    refine GOps.no rfl ?_ rfl rfl ?_
    · simp; done
    refine GOps.no rfl ?_ rfl rfl ?_
    · simp; done
    refine GOps.no rfl ?_ rfl rfl ?_
    · simp; done
    refine GOps.r rfl rfl rfl rfl (grd_pick_t rfl rfl ?_ rfl) ?_
    · with_reducible rfl
    refine GOps.nil ?_
    refine GWP.cond_t rfl ?_ ?_
    · with_reducible rfl
    refine GWP.seq ?_
    refine GWP.region ?_
    focus
      refine GOps.r rfl rfl rfl rfl (grd_build (cs := ?_) tab_is rfl rfl rfl ?_ rfl ?_) ?_
      rotate_left 1
      · decide
      · simp [gfill, gsets, Value.cells]; rfl
    focus
      refine GOps.s rfl rfl rfl (gop_storeC (b := ?_) (cs := ?_) tab_is rfl rfl ?_ rfl rfl ?_ ?_ ?_ ?_ ?_ ?_) ?_
      rotate_left 2
      · rfl
      · rfl
      · exact Hp.at_push_eq
      · rfl
      · decide
      · exact .inr (by simp)
      · simp [splice, Value.cells]; rfl
    refine GOps.r rfl rfl rfl rfl (grd_assign rfl rfl) ?_
    refine GOps.nil ?_
    refine GWP.ret ?_
    focus
      refine ⟨_, (.two (gres_cellNK (b := ?_) (cs := ?_) rfl rfl rfl ?_ ?_ ?_) (.one rfl)), ?_⟩
      rotate_left 2
      refine Hp.at_put_eq ?_
      · simp; done
      · decide
      · simp [Value.cells]; rfl
    refine ⟨?_, ?_⟩
    · rfl
    refine HExt.put ?_ ?_
    refine HExt.push ?_
    · exact HExt.refl _ _
    · exact .inr (by omega)
    simp only [beq_true, beq_false, Bool.not_true, Bool.not_false, Bool.not_eq_true', Bool.not_eq_false', decide_eq_true_eq, decide_eq_false_iff_not] at b1
    refine GOps.no rfl ?_ rfl rfl ?_
    · exact beq_eq_false_iff_ne.2 (by rw [decide_eq_true (by assumption)]; decide)
    refine GOps.no rfl ?_ rfl rfl ?_
    · exact beq_eq_false_iff_ne.2 (by rw [decide_eq_true (by assumption)]; decide)
    refine GOps.r rfl rfl rfl rfl (grd_pick_t rfl rfl ?_ rfl) ?_
    · exact decide_eq_true (by assumption)
    refine GOps.r rfl rfl rfl rfl (grd_move rfl rfl) ?_
    refine GOps.no rfl ?_ rfl rfl ?_
    · simp; done
    refine GOps.no rfl ?_ rfl rfl ?_
    · simp; done
    refine GOps.no rfl ?_ rfl rfl ?_
    · simp; done
    refine GOps.no rfl ?_ rfl rfl ?_
    · simp; done
    refine GOps.r rfl rfl rfl rfl (grd_pick_t rfl rfl ?_ rfl) ?_
    · with_reducible rfl
    refine GOps.r rfl rfl rfl rfl (grd_move rfl rfl) ?_
    refine GOps.no rfl ?_ rfl rfl ?_
    · simp; done
    refine GOps.no rfl ?_ rfl rfl ?_
    · simp; done
    refine GOps.no rfl ?_ rfl rfl ?_
    · simp; done
    refine GOps.no rfl ?_ rfl rfl ?_
    · simp; done
    refine GOps.r rfl rfl rfl rfl (grd_pick_t rfl rfl ?_ rfl) ?_
    · with_reducible rfl
    refine GOps.nil ?_
    refine GWP.cond_t rfl ?_ ?_
    · with_reducible rfl
    refine GWP.seq ?_
    refine GWP.region ?_
    focus
      refine GOps.r rfl rfl rfl rfl (grd_build (cs := ?_) tab_is rfl rfl rfl ?_ rfl ?_) ?_
      rotate_left 1
      · decide
      · simp [gfill, gsets, Value.cells]; rfl
    focus
      refine GOps.s rfl rfl rfl (gop_storeC (b := ?_) (cs := ?_) tab_is rfl rfl ?_ rfl rfl ?_ ?_ ?_ ?_ ?_ ?_) ?_
      rotate_left 2
      · rfl
      · rfl
      · exact Hp.at_push_eq
      · rfl
      · decide
      · exact .inr (by simp)
      · simp [splice, Value.cells]; rfl
    refine GOps.r rfl rfl rfl rfl (grd_assign rfl rfl) ?_
    refine GOps.nil ?_
    refine GWP.ret ?_
    focus
      refine ⟨_, (.two (gres_cellNK (b := ?_) (cs := ?_) rfl rfl rfl ?_ ?_ ?_) (.one rfl)), ?_⟩
      rotate_left 2
      refine Hp.at_put_eq ?_
      · simp; done
      · decide
      · simp [Value.cells]; rfl
    refine ⟨?_, ?_⟩
    · rfl
    refine HExt.put ?_ ?_
    refine HExt.push ?_
    · exact HExt.refl _ _
    · exact .inr (by omega)
def top40 : Nat := 1099511627776
/-- The record of bytes, without their sum. -/
def parO : List UInt8 → Option RecS
  | [] => none
  | k :: M =>
    if k.toNat = 1 then
      let r1 := RdS.number ⟨M, 0⟩ top40
      let r2 := r1.2.number top40
      if r2.2.fin ≠ 0 then none else some ⟨1, r1.1, r2.1, 0, 0, [], 0, 0, 0⟩
    else if k.toNat = 2 then
      let q := next M
      if q.2.2 ≠ 0 ∨ 256 ≤ q.1 then none else
        let D := M.drop q.2.1
        if 1 ≤ D.length / 32 ∧ D.length / 32 ≤ 4 ∧ D.length % 32 = 0 ∧ q.1 + D.length / 32 ≤ 256 then some ⟨2, 0, 0, q.1, ((q.1 + D.length / 32 : Nat) : Int), D, 0, 0, 0⟩ else none
    else if k.toNat = 3 then
      let r1 := RdS.number ⟨M, 0⟩ 255
      let r2 := r1.2.number 256
      if (r2.2.e = 0 ∧ r2.1 ≤ r1.1) ∨ r2.2.fin ≠ 0 then none else some ⟨3, 0, 0, r1.1, r2.1, [], 0, 0, 0⟩
    else if k.toNat = 4 then
      let r1 := RdS.number ⟨M, 0⟩ top40
      let r2 := r1.2.number top40
      let r3 := r2.2.number 2305843009213693950
      if r3.2.fin ≠ 0 then none else some ⟨4, 0, 0, 0, 0, [], r1.1, r2.1, r3.1⟩
    else none
set_option maxHeartbeats 4000000 in
set_option maxRecDepth 100000 in
set_option linter.unusedSimpArgs false in
theorem g_numG (s : RdS) (m : Nat) (r : Nat × RdS) (h : s.number m = r) (mi : Int) (hm : mi = (m : Int)) (H : Hp) (g : Nat) (p : Option Addr) (c : Nat) (hr : RG 81 H g p c s) : GCalls Try.prog 24 [.pointer (some ⟨g, 0, none⟩), .int .u64 mi] [g] H fun v H' => v = .int .u64 (r.1 : Int) ∧ (∃ p' c', RG 81 H' g p' c' r.2) ∧ BSk H H' ∧ HExt [g] H H' := by
  subst h hm
  exact g_number H g p c s (m : Int) (by omega) hr
theorem numG_le {s : RdS} {m : Nat} {r : Nat × RdS} (h : s.number m = r) : r.1 ≤ m := by
  subst h
  exact number_le' s m
set_option maxHeartbeats 4000000 in
set_option maxRecDepth 100000 in
set_option linter.unusedSimpArgs false in
theorem g_parse1 (H : Hp) (p : Option Addr) (n c : Nat) (M : List UInt8) (hb : BS H (.slice p n c) (1 :: M)) (hn : n ≤ 35184372088832) (r1 r2 : Nat × RdS) (h1 : RdS.number ⟨M, 0⟩ 1099511627776 = r1) (h2 : r1.2.number 1099511627776 = r2) : GCalls Try.prog 34 [.slice p n c] [] H fun v H' => v = (if r2.2.fin ≠ 0 then .tuple #[recV 0 0 0 0 0 (.slice none 0 0) 0 0 0, .int .i64 3] else .tuple #[recV 1 r1.1 r2.1 0 0 (.slice none 0 0) 0 0 0, .int .i64 0]) ∧ HExt [] H H' := by
  have hl := hb.len
  simp only [List.length_cons] at hl
  subst hl
  have t1 := numG_le h1
  have t2 := numG_le h2
  refine GCalls.body tab_is Try.func34 rfl Try.results34 Try.ntmps34 (by simp) ?_ ?_
  · first | (intro _ h; cases h; done) | (simp; done) | (simp; omega) | (intro i hi; simp at hi; rcases hi with rfl | rfl <;> omega) | (intro i hi; simp at hi; rcases hi with rfl | rfl | rfl <;> omega)
  focus
    refine GWP.seq ?_
    refine GWP.region ?_
    focus
      refine GOps.w1 rfl rfl rfl rfl (gop_alloc' (id := ?_) ?_ tab_is rfl rfl ?_) ?_
      rotate_left 1
      · rfl
      · decide
    refine GOps.r rfl rfl rfl rfl (grd_assign rfl rfl) ?_
    refine GOps.nil ?_
    refine GWP.seq ?_
    refine GWP.seq ?_
    refine GWP.region ?_
    refine GOps.r rfl rfl rfl rfl (grd_move rfl rfl) ?_
    refine GOps.r rfl rfl rfl rfl (grd_len tab_is rfl rfl rfl rfl rfl) ?_
    refine GOps.r rfl rfl rfl rfl (grd_eql rfl rfl rfl) ?_
    refine GOps.nil ?_
    refine GWP.cond_f rfl ?_ ?_
    · exact decide_eq_false (by omega)
    refine GWP.skip ?_
    refine GWP.seq ?_
    refine GWP.region ?_
    refine GOps.r rfl rfl rfl rfl (grd_move rfl rfl) ?_
    focus
      refine gops_bs rfl rfl rfl rfl (grd_slBS (l := ?_) (h := ?_) (m2 := ?_) (L := ?_) (M := ?_) tab_is rfl rfl rfl rfl ?_ ?_ ?_ ?_ ?_ ?_ ?_) ?_
      rotate_left 5
      focus
        refine BS.ext (by assumption) ?_
        refine HExt.push ?_
        · exact HExt.refl _ _
      · refine gbound_const ?_; exact rfl
      · exact rfl
      · exact Nat.le_of_ble_eq_true rfl
      · omega
      · simp; rfl
      · refine Eq.trans (List.take_of_length_le ?_) ?_; rotate_left 1; rfl; (simp; done)
    intro pc1 cc1 c1
    have c1n := BS.len c1
    focus
      refine GOps.w rfl rfl rfl rfl (gop_call rfl Try.call17 rfl ?_ (g_vopen _ _ _ _ ?_ ?_ ?_)) ?_
      · intro _ h; cases h; done
      rotate_left 1
      · assumption
      · omega
    rintro _ Hxc7 ⟨⟨gc2, pc3, cc4, rfl, lc5, rc6⟩, xc7⟩
    simp at lc5
    have xc7l := HExt.len xc7; try simp at xc7l
    have rc6g := RG.hg rc6; unfold rdBlk at rc6g; have rc6q := Hp.at_lt rc6g
    refine GOps.r rfl rfl rfl rfl (grd_assign rfl rfl) ?_
    refine GOps.nil ?_
    refine GWP.seq ?_
    refine GWP.region ?_
    refine GOps.r rfl rfl rfl rfl (grd_move rfl rfl) ?_
    focus
      refine GOps.r rfl rfl rfl rfl (grd_indexBS (q := ?_) (L := ?_) tab_is rfl rfl rfl rfl rfl ?_ ?_ ?_) ?_
      rotate_left 2
      focus
        refine BS.ext (by assumption) ?_
        refine HExt.tr ?_ (by assumption) ?_
        refine HExt.push ?_
        · exact HExt.refl _ _
        · intro _ h; cases h; done
      · rfl
      · exact Nat.le_of_ble_eq_true rfl
    focus
      refine GOps.re rfl rfl rfl rfl (grd_loadBSK (n := ?_) (c := ?_) (L := ?_) (u := ?_) tab_is rfl rfl rfl rfl ?_ ?_ ?_) ?_
      rotate_left 4
      focus
        refine BS.ext (by assumption) ?_
        refine HExt.tr ?_ (by assumption) ?_
        refine HExt.push ?_
        · exact HExt.refl _ _
        · intro _ h; cases h; done
      · exact Nat.le_of_ble_eq_true rfl
      · simp only [List.getD_cons_zero]; rfl
    focus
      refine GOps.r rfl rfl rfl rfl (grd_build (cs := ?_) tab_is rfl rfl rfl ?_ rfl ?_) ?_
      rotate_left 1
      · decide
      · simp [gfill, gsets, Value.cells]; rfl
    focus
      refine GOps.w1 rfl rfl rfl rfl (gop_alloc' (id := ?_) ?_ tab_is rfl rfl ?_) ?_
      rotate_left 1
      · rfl
      · decide
    focus
      refine GOps.s rfl rfl rfl (gop_storeC (b := ?_) (cs := ?_) tab_is rfl rfl ?_ rfl rfl ?_ ?_ ?_ ?_ ?_ ?_) ?_
      rotate_left 2
      · rfl
      · rfl
      · exact Hp.at_push_eq
      · rfl
      · decide
      · exact .inr (by simp; omega)
      · simp [splice, Value.cells]; rfl
    refine GOps.nil ?_
    refine GWP.seq ?_
    refine GWP.seq ?_
    refine GWP.region ?_
    refine GOps.r rfl rfl rfl rfl (grd_fieldAddr tab_is rfl rfl rfl rfl rfl) ?_
    focus
      refine GOps.r rfl rfl rfl rfl (grd_load1 (b := ?_) (v := ?_) tab_is rfl rfl rfl rfl ?_ ?_) ?_
      rotate_left 2
      refine Hp.at_put_eq ?_
      · simp; done
      · rfl
    refine GOps.nil ?_
    refine GWP.block ?_
    refine GWP.seq ?_
    refine GWP.region ?_
    refine GOps.r rfl rfl rfl rfl (grd_eql rfl rfl rfl) ?_
    refine GOps.r rfl rfl rfl rfl (grd_assign rfl rfl) ?_
    refine GOps.nil ?_
    refine GWP.cond_t rfl ?_ ?_
    · exact decide_eq_true (by omega)
    refine GWP.region ?_
    refine GOps.r rfl rfl rfl rfl (grd_move rfl rfl) ?_
    focus
      refine GOps.w rfl rfl rfl rfl (gop_call rfl Try.call24 rfl ?_ (g_numG _ _ _ h1 _ ?_ _ _ ?_ ?_ ?_)) ?_
      · simp [Ctx.may]; omega
      · omega
      rotate_left 2
      refine rg_ext (by assumption) ?_
      refine HExt.put ?_ ?_
      refine HExt.push ?_
      · exact HExt.refl _ _
      · exact .inr (by omega)
    rintro _ Hxc12 ⟨rfl, ⟨pc8, cc9, rc10⟩, kc11, xc12⟩
    have xc12l := HExt.len xc12; try simp at xc12l
    have rc10g := RG.hg rc10; unfold rdBlk at rc10g; have rc10q := Hp.at_lt rc10g
    refine GOps.r rfl rfl rfl rfl (grd_conv_in tab_is rfl rfl rfl rfl rfl ?_) ?_
    · refine wrap_i64_in ?_; omega
    refine GOps.r rfl rfl rfl rfl (grd_move rfl rfl) ?_
    focus
      refine GOps.w rfl rfl rfl rfl (gop_call rfl Try.call24 rfl ?_ (g_numG _ _ _ h2 _ ?_ _ _ ?_ ?_ ?_)) ?_
      · simp [Ctx.may]; omega
      · omega
      rotate_left 2
      · assumption
    rintro _ Hxc17 ⟨rfl, ⟨pc13, cc14, rc15⟩, kc16, xc17⟩
    have xc17l := HExt.len xc17; try simp at xc17l
    have rc15g := RG.hg rc15; unfold rdBlk at rc15g; have rc15q := Hp.at_lt rc15g
    refine GOps.r rfl rfl rfl rfl (grd_conv_in tab_is rfl rfl rfl rfl rfl ?_) ?_
    · refine wrap_i64_in ?_; omega
    refine GOps.r rfl rfl rfl rfl (grd_fieldAddr tab_is rfl rfl rfl rfl rfl) ?_
    focus
      refine GOps.s rfl rfl rfl (gop_store1 (b := ?_) tab_is rfl rfl rfl rfl rfl rfl ?_ ?_ ?_ ?_) ?_
      rotate_left 1
      refine (HExt.eq (by assumption) _ ?_ ?_).trans ?_
      · omega
      · simp; omega
      refine (HExt.eq (by assumption) _ ?_ ?_).trans ?_
      · simp; done
      · simp; omega
      refine Hp.at_put_eq ?_
      · simp; done
      · rfl
      · decide
      · exact .inr (by simp; omega)
    refine GOps.r rfl rfl rfl rfl (grd_fieldAddr tab_is rfl rfl rfl rfl rfl) ?_
    focus
      refine GOps.s rfl rfl rfl (gop_store1 (b := ?_) tab_is rfl rfl rfl rfl rfl rfl ?_ ?_ ?_ ?_) ?_
      rotate_left 1
      refine Hp.at_put_eq ?_
      · omega
      · rfl
      · exact Nat.le_of_ble_eq_true rfl
      · exact .inr (by simp; omega)
    refine GOps.nil ?_
    refine GWP.seq ?_
    refine GWP.seq ?_
    refine GWP.region ?_
    refine GOps.r rfl rfl rfl rfl (grd_move rfl rfl) ?_
    focus
      refine GOps.w1 rfl rfl rfl rfl (gop_call rfl Try.call25 rfl ?_ (g_end _ _ ?_ ?_ ?_ ?_)) ?_
      · intro _ h; cases h; done
      rotate_left 3
      refine rg_ne (b := ?_) ?_ ?_ ?_ ?_
      rotate_left 1
      focus
        refine rg_ne (b := ?_) ?_ ?_ ?_ ?_
        rotate_left 1
        focus
          · assumption
        refine (HExt.eq (by assumption) _ ?_ ?_).trans ?_
        · omega
        · simp; omega
        refine (HExt.eq (by assumption) _ ?_ ?_).trans ?_
        · simp; done
        · simp; omega
        refine Hp.at_put_eq ?_
        · simp; done
        · omega
        · rfl
      refine Hp.at_put_eq ?_
      · omega
      · omega
      · rfl
    refine GOps.r rfl rfl rfl rfl (grd_neq rfl rfl rfl) ?_
    refine GOps.nil ?_
    refine GWP.cond rfl (fun c18 => ?_) (fun c18 => ?_)
    simp only [beq_true, beq_false, Bool.not_true, Bool.not_false, Bool.not_eq_true', Bool.not_eq_false', decide_eq_true_eq, decide_eq_false_iff_not] at c18
    refine GWP.seq ?_
    refine GWP.region ?_
    focus
      refine GOps.r rfl rfl rfl rfl (grd_build (cs := ?_) tab_is rfl rfl rfl ?_ rfl ?_) ?_
      rotate_left 1
      · decide
      · simp [gfill, gsets, Value.cells]; rfl
    focus
      refine GOps.s rfl rfl rfl (gop_storeC (b := ?_) (cs := ?_) tab_is rfl rfl ?_ rfl rfl ?_ ?_ ?_ ?_ ?_ ?_) ?_
      rotate_left 2
      · rfl
      · rfl
      refine (Hp.at_put_ne ?_).trans ?_
      · omega
      refine (Hp.at_put_ne ?_).trans ?_
      · omega
      refine (HExt.eq (by assumption) _ ?_ ?_).trans ?_
      · omega
      · simp; omega
      refine (HExt.eq (by assumption) _ ?_ ?_).trans ?_
      · simp; omega
      · simp; omega
      refine (Hp.at_put_ne ?_).trans ?_
      · omega
      refine (Hp.at_push_lt ?_).trans ?_
      · omega
      refine (HExt.eq (by assumption) _ ?_ ?_).trans ?_
      · simp; done
      · intro h; cases h; done
      · exact Hp.at_push_eq
      · rfl
      · decide
      · exact .inr (by simp)
      · simp [splice, Value.cells]; rfl
    refine GOps.r rfl rfl rfl rfl (grd_assign rfl rfl) ?_
    refine GOps.nil ?_
    refine GWP.ret ?_
    focus
      refine ⟨_, (.two (gres_cellNK (b := ?_) (cs := ?_) rfl rfl rfl ?_ ?_ ?_) (.one rfl)), ?_⟩
      rotate_left 2
      refine Hp.at_put_eq ?_
      · simp; omega
      · decide
      · simp [Value.cells]; rfl
    refine ⟨?_, ?_⟩
    · rw [if_pos (by omega)]; rfl
    refine HExt.put ?_ ?_
    refine HExt.put ?_ ?_
    refine HExt.put ?_ ?_
    refine HExt.tr ?_ (by assumption) ?_
    refine HExt.tr ?_ (by assumption) ?_
    refine HExt.put ?_ ?_
    refine HExt.push ?_
    refine HExt.tr ?_ (by assumption) ?_
    refine HExt.push ?_
    · exact HExt.refl _ _
    · intro _ h; cases h; done
    · exact .inr (by omega)
    · simp; omega
    · simp; omega
    · exact .inr (by omega)
    · exact .inr (by omega)
    · exact .inr (by omega)
    simp only [beq_true, beq_false, Bool.not_true, Bool.not_false, Bool.not_eq_true', Bool.not_eq_false', decide_eq_true_eq, decide_eq_false_iff_not] at c18
    refine GWP.skip ?_
    refine GWP.seq ?_
    refine GWP.region ?_
    focus
      refine GOps.r rfl rfl rfl rfl (grd_loadNK (b := ?_) (cs := ?_) tab_is rfl rfl rfl rfl ?_ ?_ ?_) ?_
      rotate_left 2
      refine Hp.at_put_eq ?_
      · simp; omega
      · exact Nat.le_of_ble_eq_true rfl
      · simp [Value.cells]; rfl
    focus
      refine GOps.s rfl rfl rfl (gop_storeC (b := ?_) (cs := ?_) tab_is rfl rfl ?_ rfl rfl ?_ ?_ ?_ ?_ ?_ ?_) ?_
      rotate_left 2
      · rfl
      · rfl
      refine (Hp.at_put_ne ?_).trans ?_
      · omega
      refine (Hp.at_put_ne ?_).trans ?_
      · omega
      refine (HExt.eq (by assumption) _ ?_ ?_).trans ?_
      · omega
      · simp; omega
      refine (HExt.eq (by assumption) _ ?_ ?_).trans ?_
      · simp; omega
      · simp; omega
      refine (Hp.at_put_ne ?_).trans ?_
      · omega
      refine (Hp.at_push_lt ?_).trans ?_
      · omega
      refine (HExt.eq (by assumption) _ ?_ ?_).trans ?_
      · simp; done
      · intro h; cases h; done
      · exact Hp.at_push_eq
      · rfl
      · exact Nat.le_of_ble_eq_true rfl
      · exact .inr (by simp)
      · simp [splice, Value.cells]; rfl
    refine GOps.r rfl rfl rfl rfl (grd_assign rfl rfl) ?_
    refine GOps.nil ?_
    refine GWP.ret ?_
    focus
      refine ⟨_, (.two (gres_cellNK (b := ?_) (cs := ?_) rfl rfl rfl ?_ ?_ ?_) (.one rfl)), ?_⟩
      rotate_left 2
      refine Hp.at_put_eq ?_
      · simp; omega
      · exact Nat.le_of_ble_eq_true rfl
      · simp [Value.cells]; rfl
    refine ⟨?_, ?_⟩
    · rw [if_neg (by omega)]; rfl
    refine HExt.put ?_ ?_
    refine HExt.put ?_ ?_
    refine HExt.put ?_ ?_
    refine HExt.tr ?_ (by assumption) ?_
    refine HExt.tr ?_ (by assumption) ?_
    refine HExt.put ?_ ?_
    refine HExt.push ?_
    refine HExt.tr ?_ (by assumption) ?_
    refine HExt.push ?_
    · exact HExt.refl _ _
    · intro _ h; cases h; done
    · exact .inr (by omega)
    · simp; omega
    · simp; omega
    · exact .inr (by omega)
    · exact .inr (by omega)
    · exact .inr (by omega)
end Go.Proofs.Ytjlimdiimdihfaa

/- A block hidden from a call. Over any program. -/
namespace Go.Proofs.Ytjlimdiimdihfaa
open Go.RowKit

section
variable {P : Program} {H : Hp}
/-- What a call does where a block is forgotten, it does where it is known; and that block stays as it is. -/
theorem GCalls.hide {f : FuncId} {args : List Value} {F : List Nat} {R : Value → Hp → Prop} {j : Nat} {b : Blk} (hb : H.at j = some b) (hF : ∀ i ∈ F, i ≠ j ∧ ∃ c, H.at i = some c ∧ (b.rw = true ∨ c.rw = true)) (h : GCalls P f args F (H.kill j) R) (hx : ∀ v H', R v H' → HExt F (H.kill j) H') : GCalls P f args F H (fun v H' => ∃ H1, R v H1 ∧ H1.at j = none ∧ H' = H1.put j b) := fun μ w rargs hs hv => by
  have hlt := Hp.at_lt hb
  refine (h μ w rargs (hs.kill j) hv).mono ?_
  rintro e w' ⟨v, rv, H1, μ', q1, q2, q3, q4, q5, q6, q7, q8, q9⟩
  have hk := hx _ _ q2
  have hlk : (H.kill j).length = H.length := Hp.len_kill
  rw [hlk] at q7 q8 q9
  have hj : H1.at j = none := by rw [hk.eq j (by rw [hlk]; exact hlt) (fun hm => (hF j hm).1 rfl), Hp.at_kill_eq]
  obtain ⟨L, rs, t, fz, d1, d2, d3, d4, d5, d6, d7⟩ := hs.dom j b hb
  have hni : L.g ∉ img μ F := fun hm => by
    obtain ⟨i, M, m1, m2, m3⟩ := img_mem hm
    obtain ⟨n1, c, n2, n3⟩ := hF i m1
    exact n1 (hs.inj i j c b M L n2 hb m2 d1 m3 n3.symm)
  have hL := (hs.len j L d1).2
  have key : ∀ k c' M', k ≠ j → H1.at k = some c' → μ' k = some M' → L.g = M'.g → (b.rw = true ∨ c'.rw = true) → False := fun k c' M' hne hc hM hg hr => by
    rcases Nat.lt_or_ge k H.length with h1 | h1
    · have hm := q9 k M' h1 hM
      by_cases hkF : k ∈ F
      · exact hni (by rw [hg]; exact mem_img hkF hm)
      · rw [hk.eq k (by rw [hlk]; exact h1) hkF, Hp.at_kill_ne (Ne.symm hne)] at hc
        exact hne (hs.inj j k b c' L M' hb hc d1 hm hg hr).symm
    · rcases q7 k M' h1 hM with h2 | h2
      · exact hni (by rw [hg]; exact h2)
      · omega
  refine ⟨v, rv, H1.put j b, μ', q1, ⟨H1, q2, hj, rfl⟩, q3, ⟨fun i c hc => ?_, fun i M hM => ?_, fun i k c c' M M' hi hk' hM hM' hg hr => ?_⟩, q5, q6, q7, by rw [Hp.len_put]; exact q8, q9⟩
  · by_cases e1 : j = i
    · subst e1
      rw [Hp.at_put_eq (by omega)] at hc
      injection hc with hc
      subst hc
      exact ⟨L, rs, t, fz, q5 _ _ d1, d2, (q6.block _ hL hni).trans d3, d4, d5, d6.mono q5, d7⟩
    · rw [Hp.at_put_ne e1] at hc
      exact q4.dom i c hc
  · rw [Hp.len_put]
    exact q4.len i M hM
  · have hjL := q5 _ _ d1
    by_cases e1 : j = i
    · subst e1
      rw [hjL] at hM
      injection hM with hM
      subst hM
      rw [Hp.at_put_eq (by omega)] at hi
      injection hi with hi
      subst hi
      by_cases e2 : j = k
      · exact e2
      · rw [Hp.at_put_ne e2] at hk'
        exact (key k c' M' (Ne.symm e2) hk' hM' hg hr).elim
    · rw [Hp.at_put_ne e1] at hi
      by_cases e2 : j = k
      · subst e2
        rw [hjL] at hM'
        injection hM' with hM'
        subst hM'
        rw [Hp.at_put_eq (by omega)] at hk'
        injection hk' with hk'
        subst hk'
        exact (key i c M (Ne.symm e1) hi hM hg.symm hr.symm).elim
      · rw [Hp.at_put_ne e2] at hk'
        exact q4.inj i k c c' M M' hi hk' hM hM' hg hr
end
section
variable {H H1 : Hp} {j : Nat} {b : Blk} {v : Value} {L : List UInt8}
/-- Bytes elsewhere. -/
theorem bs_off (h : BS H1 v L) (hj : H1.at j = none) (b : Blk) : BS (H1.put j b) v L := by
  cases h with
  | none => exact .none
  | some hb hs hl ho hu => exact .some ((Hp.at_put_ne (by rintro rfl; rw [hj] at hb; cases hb)).trans hb) hs hl ho hu
/-- Bytes of a heap in which a block is forgotten. -/
theorem bs_unk {p : Option Addr} {n c : Nat} (h : BS H (.slice p n c) L) (hp : ∀ a, p = some a → a.block ≠ j) : BS (H.kill j) (.slice p n c) L := by
  cases h with
  | none => exact .none
  | some hb hs hl ho hu => exact .some ((Hp.at_kill_ne (Ne.symm (hp _ rfl))).trans hb) hs hl ho hu
theorem HExt.unkill {F : List Nat} (h : HExt F (H.kill j) H1) (hb : H.at j = some b) : HExt F H (H1.put j b) := by
  refine ⟨by rw [Hp.len_put]; have := h.len; rw [Hp.len_kill] at this; exact this, fun i hi hn => ?_⟩
  by_cases e : j = i
  · subst e
    rw [Hp.at_put_eq (by have := h.len; rw [Hp.len_kill] at this; omega), hb]
  · rw [Hp.at_put_ne e, h.eq i (by rw [Hp.len_kill]; exact hi) hn, Hp.at_kill_ne e]
end
end Go.Proofs.Ytjlimdiimdihfaa

/- Readers beside other blocks. -/
namespace Go.Proofs.Ytjlimdiimdihfaa
open Go.RowKit

theorem bs_pushed {H : Hp} {b : Blk} {v : Value} {L : List UInt8} (h : BS H v L) : BS (H.push b) v L := h.ext (HExt.refl _ _).push
theorem bs_low {H H1 : Hp} {j : Nat} {b : Blk} {v : Value} {L : List UInt8} (q1 : BS H1 v L) (q : BS H v L) (hj : H.length ≤ j) : BS (H1.put j b) v L := by
  cases q with
  | none => exact .none
  | some hb _ _ _ _ =>
    have hlt := Hp.at_lt hb
    cases q1 with
    | some hb1 hs hl ho hu => exact .some ((Hp.at_put_ne (by omega)).trans hb1) hs hl ho hu
theorem rg_off {T : TypeId} {H : Hp} {g j : Nat} {p : Option Addr} {c : Nat} {s : RdS} (h : RG T H g p c s) (hj : H.at j = none) (b : Blk) : RG T (H.put j b) g p c s := ⟨(Hp.at_put_ne (by rintro rfl; rw [h.hg] at hj; cases hj)).trans h.hg, bs_off h.hb hj b, h.hl⟩
theorem rg_kill {H : Hp} {T : TypeId} {g j : Nat} {p : Option Addr} {c : Nat} {s : RdS} (h : RG T H g p c s) (hne : j ≠ g) (hp : ∀ a, p = some a → a.block ≠ j) : RG T (H.kill j) g p c s := ⟨(Hp.at_kill_ne hne).trans h.hg, bs_unk h.hb hp, h.hl⟩
theorem bsk_low {H H1 : Hp} {j : Nat} {b : Blk} (h : BSk H H1) (hj : H.length ≤ j) : BSk H (H1.put j b) := fun v L q => bs_low (h v L q) q hj
theorem bsk_no {H H1 : Hp} {j : Nat} {b b' : Blk} (h : BSk H H1) (hb : H1.at j = some b) (hno : allU8 b.cs = false) : BSk H (H1.put j b') := fun v L q => bs_put hb hno (h v L q)
theorem bsk_push {H H1 : Hp} {b : Blk} (h : BSk H H1) : BSk H (H1.push b) := h.trans (.of (HExt.refl _ _).push)
theorem bsk_tail {H H1 H2 : Hp} (h : BSk H H1) (k : HExt [] H1 H2) : BSk H H2 := h.trans (.of k)
set_option maxHeartbeats 4000000 in
set_option maxRecDepth 100000 in
set_option linter.unusedSimpArgs false in
theorem g_cloneF (H : Hp) (p : Option Addr) (n c : Nat) (L : List UInt8) (hb : BS H (.slice p n c) L) (hn : n ≤ 140737488355328) : GCalls Try.prog 35 [.slice p n c] [] H fun v H' => (∃ p' n' c', v = .slice p' n' c' ∧ BS H' (.slice p' n' c') L ∧ ∀ a, p' = some a → H.length ≤ a.block) ∧ HExt [] H H' := by
  have hl := hb.len
  rcases Nat.eq_zero_or_pos n with h0 | h0
  · subst h0
    obtain rfl : L = [] := List.eq_nil_of_length_eq_zero hl
    refine GCalls.body tab_is Try.func35 rfl Try.results35 Try.ntmps35 (by simp) ?_ ?_
    · first | (intro _ h; cases h; done) | (simp; done) | (simp; omega) | (intro i hi; simp at hi; rcases hi with rfl | rfl <;> omega) | (intro i hi; simp at hi; rcases hi with rfl | rfl | rfl <;> omega)
    focus
      refine GWP.seq ?_
      refine GWP.region ?_
      refine GOps.r rfl rfl rfl rfl (grd_assign rfl rfl) ?_
      refine GOps.nil ?_
      refine GWP.seq ?_
      refine GWP.seq ?_
      refine GWP.region ?_
      refine GOps.r rfl rfl rfl rfl (grd_move rfl rfl) ?_
      refine GOps.r rfl rfl rfl rfl (grd_sleql tab_is rfl rfl rfl rfl rfl) ?_
      refine GOps.nil ?_
      refine GWP.cond rfl (fun i1 => ?_) (fun i1 => ?_)
      simp at i1
      refine GWP.seq ?_
      refine GWP.region ?_
      refine GOps.r rfl rfl rfl rfl (grd_assign rfl rfl) ?_
      refine GOps.nil ?_
      refine GWP.ret ?_
      refine ⟨_, .one rfl, ?_⟩
      refine ⟨?_, ?_⟩
      · exact ⟨_, _, _, rfl, BS.none, fun _ h => by cases h⟩
      · exact HExt.refl _ _
      simp at i1
      refine GWP.skip ?_
      refine GWP.seq ?_
      refine GWP.region ?_
      focus
        refine GOps.w1 rfl rfl rfl rfl (gop_lit (id := ?_) (cs := ?_) ?_ tab_is rfl rfl rfl ?_ ?_ rfl ?_ ?_) ?_
        rotate_left 2
        · rfl
        · decide
        · decide
        · simp [gfill, gsets, Value.cells]; rfl
        · rfl
      refine GOps.r rfl rfl rfl rfl (grd_move rfl rfl) ?_
      focus
        refine GOps.w1 rfl rfl rfl rfl (gop_zeroB (L := ?_) (M := ?_) tab_is rfl rfl rfl rfl ?_ ?_ (gsrc_bs rfl rfl rfl ?_) ?_ ?_ ?_) ?_
        rotate_left 2
        refine bs_emptyE (b := ?_) ?_ ?_ ?_ ?_ ?_
        rotate_left 1
        · exact Hp.at_push_eq
        · rfl
        · decide
        · rfl
        · rfl
        · omega
        focus
          refine BS.ext (by assumption) ?_
          refine HExt.push ?_
          · exact HExt.refl _ _
        · exact BS.len (by assumption)
        · decide
        · decide
      refine GOps.r rfl rfl rfl rfl (grd_assign rfl rfl) ?_
      refine GOps.nil ?_
      refine GWP.ret ?_
      refine ⟨_, .one rfl, ?_⟩
      refine ⟨?_, ?_⟩
      rotate_left 1
      refine HExt.push ?_
      · exact HExt.refl _ _
    exact ⟨_, _, _, rfl, bs_empty (b := ⟨_, 1, _, _⟩) Hp.at_push_eq rfl (Nat.zero_le _) rfl, fun a h => by injection h with h; subst h; exact Nat.le_refl _⟩
  ·
    refine GCalls.body tab_is Try.func35 rfl Try.results35 Try.ntmps35 (by simp) ?_ ?_
    · first | (intro _ h; cases h; done) | (simp; done) | (simp; omega) | (intro i hi; simp at hi; rcases hi with rfl | rfl <;> omega) | (intro i hi; simp at hi; rcases hi with rfl | rfl | rfl <;> omega)
    focus
      refine GWP.seq ?_
      refine GWP.region ?_
      refine GOps.r rfl rfl rfl rfl (grd_assign rfl rfl) ?_
      refine GOps.nil ?_
      refine GWP.seq ?_
      refine GWP.seq ?_
      refine GWP.region ?_
      refine GOps.r rfl rfl rfl rfl (grd_move rfl rfl) ?_
      refine GOps.r rfl rfl rfl rfl (grd_sleql tab_is rfl rfl rfl rfl rfl) ?_
      refine GOps.nil ?_
      refine GWP.cond rfl (fun j1 => ?_) (fun j1 => ?_)
      simp at j1
      refine GWP.seq ?_
      refine GWP.region ?_
      refine GOps.r rfl rfl rfl rfl (grd_assign rfl rfl) ?_
      refine GOps.nil ?_
      refine GWP.ret ?_
      refine ⟨_, .one rfl, ?_⟩
      refine ⟨?_, ?_⟩
      rotate_left 1
      · exact HExt.refl _ _
      simp at j1
      refine GWP.skip ?_
      refine GWP.seq ?_
      refine GWP.region ?_
      focus
        refine GOps.w1 rfl rfl rfl rfl (gop_lit (id := ?_) (cs := ?_) ?_ tab_is rfl rfl rfl ?_ ?_ rfl ?_ ?_) ?_
        rotate_left 2
        · rfl
        · decide
        · decide
        · simp [gfill, gsets, Value.cells]; rfl
        · rfl
      refine GOps.r rfl rfl rfl rfl (grd_move rfl rfl) ?_
      focus
        refine GOps.w1 rfl rfl rfl rfl (gop_fullB (id := ?_) (L := ?_) (M := ?_) (K := ?_) ?_ tab_is rfl rfl rfl rfl ?_ ?_ ?_ (gsrc_bs rfl rfl rfl ?_) ?_ ?_ ?_ ?_) ?_
        rotate_left 4
        · simp; rfl
        refine bs_emptyE (b := ?_) ?_ ?_ ?_ ?_ ?_
        rotate_left 1
        · exact Hp.at_push_eq
        · rfl
        · decide
        · rfl
        · rfl
        · decide
        · omega
        focus
          refine BS.ext (by assumption) ?_
          refine HExt.push ?_
          · exact HExt.refl _ _
        · exact BS.len (by assumption)
        · simp only [List.nil_append]; rfl
        · omega
        · omega
      refine GOps.r rfl rfl rfl rfl (grd_assign rfl rfl) ?_
      refine GOps.nil ?_
      refine GWP.ret ?_
      refine ⟨_, .one rfl, ?_⟩
      refine ⟨?_, ?_⟩
      rotate_left 1
      refine HExt.push ?_
      refine HExt.push ?_
      · exact HExt.refl _ _
    · subst j1
      cases hb
      omega
    · exact ⟨_, _, _, rfl, bs_push (by simp) (by omega), fun a h => by injection h with h; subst h; exact Nat.le_succ _⟩
set_option maxHeartbeats 4000000 in
set_option maxRecDepth 100000 in
set_option linter.unusedSimpArgs false in
theorem g_vopenF (H : Hp) (p : Option Addr) (n c : Nat) (L : List UInt8) (hb : BS H (.slice p n c) L) (hn : n ≤ 140737488355328) : GCalls Try.prog 17 [.slice p n c] [] H fun v H' => (∃ g p' c', v = .pointer (some ⟨g, 0, none⟩) ∧ H.length ≤ g ∧ RG 81 H' g p' c' ⟨L, 0⟩ ∧ ∀ a, p' = some a → H.length ≤ a.block) ∧ HExt [] H H' := by
  have hl := hb.len
  refine GCalls.body tab_is Try.func17 rfl Try.results17 Try.ntmps17 (by simp) ?_ ?_
  · first | (intro _ h; cases h; done) | (simp; done) | (simp; omega) | (intro i hi; simp at hi; rcases hi with rfl | rfl <;> omega) | (intro i hi; simp at hi; rcases hi with rfl | rfl | rfl <;> omega)
  focus
    refine GWP.seq ?_
    refine GWP.region ?_
    refine GOps.r rfl rfl rfl rfl (grd_assign rfl rfl) ?_
    refine GOps.nil ?_
    refine GWP.seq ?_
    refine GWP.region ?_
    refine GOps.r rfl rfl rfl rfl (grd_move rfl rfl) ?_
    focus
      refine GOps.w rfl rfl rfl rfl (gop_call rfl Try.call35 rfl ?_ (g_cloneF _ _ _ _ ?_ ?_ ?_)) ?_
      · intro _ h; cases h; done
      rotate_left 1
      · assumption
      · omega
    rintro _ Hxk6 ⟨⟨pk1, nk2, ck3, rfl, bk4, fk5⟩, xk6⟩
    have xk6l := HExt.len xk6; try simp at xk6l
    focus
      refine GOps.r rfl rfl rfl rfl (grd_build (cs := ?_) tab_is rfl rfl rfl ?_ rfl ?_) ?_
      rotate_left 1
      · decide
      · simp [gfill, gsets, Value.cells]; rfl
    focus
      refine GOps.w1 rfl rfl rfl rfl (gop_box' (id := ?_) ?_ rfl rfl rfl) ?_
      rotate_left 1
      · rfl
    refine GOps.r rfl rfl rfl rfl (grd_assign rfl rfl) ?_
    refine GOps.nil ?_
    refine GWP.ret ?_
    refine ⟨_, .one rfl, ?_⟩
    refine ⟨?_, ?_⟩
    rotate_left 1
    refine HExt.push ?_
    · assumption
  have e := bk4.len
  subst e
  exact ⟨_, pk1, ck3, rfl, by simpa using xk6l, ⟨Hp.at_push_eq, bk4.ext (HExt.refl _ _).push, by simp only; omega⟩, fk5⟩
end Go.Proofs.Ytjlimdiimdihfaa

/- Records out of bytes: the other kinds. -/
namespace Go.Proofs.Ytjlimdiimdihfaa
open Go.RowKit

set_option maxHeartbeats 4000000 in
set_option maxRecDepth 100000 in
set_option linter.unusedSimpArgs false in
theorem g_parse3 (H : Hp) (p : Option Addr) (n c : Nat) (M : List UInt8) (hb : BS H (.slice p n c) (3 :: M)) (hn : n ≤ 35184372088832) (r1 r2 : Nat × RdS) (h1 : RdS.number ⟨M, 0⟩ 255 = r1) (h2 : r1.2.number 256 = r2) : GCalls Try.prog 34 [.slice p n c] [] H fun v H' => v = (if (r2.2.e = 0 ∧ r2.1 ≤ r1.1) ∨ r2.2.fin ≠ 0 then .tuple #[recV 0 0 0 0 0 (.slice none 0 0) 0 0 0, .int .i64 3] else .tuple #[recV 3 0 0 r1.1 r2.1 (.slice none 0 0) 0 0 0, .int .i64 0]) ∧ HExt [] H H' := by
  have hl := hb.len
  simp only [List.length_cons] at hl
  subst hl
  have t1 := numG_le h1
  have t2 := numG_le h2
  refine GCalls.body tab_is Try.func34 rfl Try.results34 Try.ntmps34 (by simp) ?_ ?_
  · first | (intro _ h; cases h; done) | (simp; done) | (simp; omega) | (intro i hi; simp at hi; rcases hi with rfl | rfl <;> omega) | (intro i hi; simp at hi; rcases hi with rfl | rfl | rfl <;> omega)
  focus
    refine GWP.seq ?_
    refine GWP.region ?_
    focus
      refine GOps.w1 rfl rfl rfl rfl (gop_alloc' (id := ?_) ?_ tab_is rfl rfl ?_) ?_
      rotate_left 1
      · rfl
      · decide
    refine GOps.r rfl rfl rfl rfl (grd_assign rfl rfl) ?_
    refine GOps.nil ?_
    refine GWP.seq ?_
    refine GWP.seq ?_
    refine GWP.region ?_
    refine GOps.r rfl rfl rfl rfl (grd_move rfl rfl) ?_
    refine GOps.r rfl rfl rfl rfl (grd_len tab_is rfl rfl rfl rfl rfl) ?_
    refine GOps.r rfl rfl rfl rfl (grd_eql rfl rfl rfl) ?_
    refine GOps.nil ?_
    refine GWP.cond_f rfl ?_ ?_
    · exact decide_eq_false (by omega)
    refine GWP.skip ?_
    refine GWP.seq ?_
    refine GWP.region ?_
    refine GOps.r rfl rfl rfl rfl (grd_move rfl rfl) ?_
    focus
      refine gops_bs rfl rfl rfl rfl (grd_slBS (l := ?_) (h := ?_) (m2 := ?_) (L := ?_) (M := ?_) tab_is rfl rfl rfl rfl ?_ ?_ ?_ ?_ ?_ ?_ ?_) ?_
      rotate_left 5
      focus
        refine BS.ext (by assumption) ?_
        refine HExt.push ?_
        · exact HExt.refl _ _
      · refine gbound_const ?_; exact rfl
      · exact rfl
      · exact Nat.le_of_ble_eq_true rfl
      · omega
      · simp; rfl
      · refine Eq.trans (List.take_of_length_le ?_) ?_; rotate_left 1; rfl; (simp; done)
    intro pa1 ca1 a1
    have a1n := BS.len a1
    focus
      refine GOps.w rfl rfl rfl rfl (gop_call rfl Try.call17 rfl ?_ (g_vopen _ _ _ _ ?_ ?_ ?_)) ?_
      · intro _ h; cases h; done
      rotate_left 1
      · assumption
      · omega
    rintro _ Hxa7 ⟨⟨ga2, pa3, ca4, rfl, la5, ra6⟩, xa7⟩
    simp at la5
    have xa7l := HExt.len xa7; try simp at xa7l
    have ra6g := RG.hg ra6; unfold rdBlk at ra6g; have ra6q := Hp.at_lt ra6g
    refine GOps.r rfl rfl rfl rfl (grd_assign rfl rfl) ?_
    refine GOps.nil ?_
    refine GWP.seq ?_
    refine GWP.region ?_
    refine GOps.r rfl rfl rfl rfl (grd_move rfl rfl) ?_
    focus
      refine GOps.r rfl rfl rfl rfl (grd_indexBS (q := ?_) (L := ?_) tab_is rfl rfl rfl rfl rfl ?_ ?_ ?_) ?_
      rotate_left 2
      focus
        refine BS.ext (by assumption) ?_
        refine HExt.tr ?_ (by assumption) ?_
        refine HExt.push ?_
        · exact HExt.refl _ _
        · intro _ h; cases h; done
      · rfl
      · exact Nat.le_of_ble_eq_true rfl
    focus
      refine GOps.re rfl rfl rfl rfl (grd_loadBSK (n := ?_) (c := ?_) (L := ?_) (u := ?_) tab_is rfl rfl rfl rfl ?_ ?_ ?_) ?_
      rotate_left 4
      focus
        refine BS.ext (by assumption) ?_
        refine HExt.tr ?_ (by assumption) ?_
        refine HExt.push ?_
        · exact HExt.refl _ _
        · intro _ h; cases h; done
      · exact Nat.le_of_ble_eq_true rfl
      · simp only [List.getD_cons_zero]; rfl
    focus
      refine GOps.r rfl rfl rfl rfl (grd_build (cs := ?_) tab_is rfl rfl rfl ?_ rfl ?_) ?_
      rotate_left 1
      · decide
      · simp [gfill, gsets, Value.cells]; rfl
    focus
      refine GOps.w1 rfl rfl rfl rfl (gop_alloc' (id := ?_) ?_ tab_is rfl rfl ?_) ?_
      rotate_left 1
      · rfl
      · decide
    focus
      refine GOps.s rfl rfl rfl (gop_storeC (b := ?_) (cs := ?_) tab_is rfl rfl ?_ rfl rfl ?_ ?_ ?_ ?_ ?_ ?_) ?_
      rotate_left 2
      · rfl
      · rfl
      · exact Hp.at_push_eq
      · rfl
      · decide
      · exact .inr (by simp; omega)
      · simp [splice, Value.cells]; rfl
    refine GOps.nil ?_
    refine GWP.seq ?_
    refine GWP.seq ?_
    refine GWP.region ?_
    refine GOps.r rfl rfl rfl rfl (grd_fieldAddr tab_is rfl rfl rfl rfl rfl) ?_
    focus
      refine GOps.r rfl rfl rfl rfl (grd_load1 (b := ?_) (v := ?_) tab_is rfl rfl rfl rfl ?_ ?_) ?_
      rotate_left 2
      refine Hp.at_put_eq ?_
      · simp; done
      · rfl
    refine GOps.nil ?_
    refine GWP.block ?_
    refine GWP.seq ?_
    refine GWP.region ?_
    refine GOps.r rfl rfl rfl rfl (grd_eql rfl rfl rfl) ?_
    refine GOps.r rfl rfl rfl rfl (grd_assign rfl rfl) ?_
    refine GOps.nil ?_
    refine GWP.cond_f rfl ?_ ?_
    · exact decide_eq_false (by omega)
    refine GWP.seq ?_
    refine GWP.region ?_
    refine GOps.r rfl rfl rfl rfl (grd_eql rfl rfl rfl) ?_
    refine GOps.r rfl rfl rfl rfl (grd_assign rfl rfl) ?_
    refine GOps.nil ?_
    refine GWP.cond_f rfl ?_ ?_
    · exact decide_eq_false (by omega)
    refine GWP.seq ?_
    refine GWP.region ?_
    refine GOps.r rfl rfl rfl rfl (grd_eql rfl rfl rfl) ?_
    refine GOps.r rfl rfl rfl rfl (grd_assign rfl rfl) ?_
    refine GOps.nil ?_
    refine GWP.cond_t rfl ?_ ?_
    · exact decide_eq_true (by omega)
    refine GWP.seq ?_
    refine GWP.region ?_
    refine GOps.r rfl rfl rfl rfl (grd_move rfl rfl) ?_
    focus
      refine GOps.w rfl rfl rfl rfl (gop_call rfl Try.call24 rfl ?_ (g_numG _ _ _ h1 _ ?_ _ _ ?_ ?_ ?_)) ?_
      · simp [Ctx.may]; omega
      · omega
      rotate_left 2
      refine rg_ext (by assumption) ?_
      refine HExt.put ?_ ?_
      refine HExt.push ?_
      · exact HExt.refl _ _
      · exact .inr (by omega)
    rintro _ Hxa12 ⟨rfl, ⟨pa8, ca9, ra10⟩, ka11, xa12⟩
    have xa12l := HExt.len xa12; try simp at xa12l
    have ra10g := RG.hg ra10; unfold rdBlk at ra10g; have ra10q := Hp.at_lt ra10g
    refine GOps.r rfl rfl rfl rfl (grd_conv_in tab_is rfl rfl rfl rfl rfl ?_) ?_
    · refine wrap_i64_in ?_; omega
    refine GOps.r rfl rfl rfl rfl (grd_fieldAddr tab_is rfl rfl rfl rfl rfl) ?_
    refine GOps.r rfl rfl rfl rfl (grd_fieldAddr tab_is rfl rfl rfl rfl rfl) ?_
    focus
      refine GOps.s rfl rfl rfl (gop_store1 (b := ?_) tab_is rfl rfl rfl rfl rfl rfl ?_ ?_ ?_ ?_) ?_
      rotate_left 1
      refine (HExt.eq (by assumption) _ ?_ ?_).trans ?_
      · simp; done
      · simp; omega
      refine Hp.at_put_eq ?_
      · simp; done
      · rfl
      · decide
      · exact .inr (by simp; omega)
    refine GOps.nil ?_
    refine GWP.seq ?_
    refine GWP.region ?_
    refine GOps.r rfl rfl rfl rfl (grd_move rfl rfl) ?_
    focus
      refine GOps.w rfl rfl rfl rfl (gop_call rfl Try.call24 rfl ?_ (g_numG _ _ _ h2 _ ?_ _ _ ?_ ?_ ?_)) ?_
      · simp [Ctx.may]; omega
      · omega
      rotate_left 2
      refine rg_ne (b := ?_) ?_ ?_ ?_ ?_
      rotate_left 1
      focus
        · assumption
      refine (HExt.eq (by assumption) _ ?_ ?_).trans ?_
      · simp; done
      · simp; omega
      refine Hp.at_put_eq ?_
      · simp; done
      · omega
      · rfl
    rintro _ Hxa17 ⟨rfl, ⟨pa13, ca14, ra15⟩, ka16, xa17⟩
    have xa17l := HExt.len xa17; try simp at xa17l
    have ra15g := RG.hg ra15; unfold rdBlk at ra15g; have ra15q := Hp.at_lt ra15g
    refine GOps.r rfl rfl rfl rfl (grd_conv_in tab_is rfl rfl rfl rfl rfl ?_) ?_
    · refine wrap_i64_in ?_; omega
    refine GOps.r rfl rfl rfl rfl (grd_fieldAddr tab_is rfl rfl rfl rfl rfl) ?_
    refine GOps.r rfl rfl rfl rfl (grd_fieldAddr tab_is rfl rfl rfl rfl rfl) ?_
    focus
      refine GOps.s rfl rfl rfl (gop_store1 (b := ?_) tab_is rfl rfl rfl rfl rfl rfl ?_ ?_ ?_ ?_) ?_
      rotate_left 1
      refine (HExt.eq (by assumption) _ ?_ ?_).trans ?_
      · simp; omega
      · simp; omega
      refine Hp.at_put_eq ?_
      · omega
      · rfl
      · exact Nat.le_of_ble_eq_true rfl
      · exact .inr (by simp; omega)
    refine GOps.nil ?_
    refine GWP.seq ?_
    refine GWP.region ?_
    refine GOps.r rfl rfl rfl rfl (grd_move rfl rfl) ?_
    focus
      refine GOps.w1 rfl rfl rfl rfl (gop_call rfl Try.call33 rfl ?_ (g_failed _ _ ?_ ?_ ?_ ?_)) ?_
      · intro _ h; cases h; done
      rotate_left 3
      refine rg_ne (b := ?_) ?_ ?_ ?_ ?_
      rotate_left 1
      focus
        · assumption
      refine (HExt.eq (by assumption) _ ?_ ?_).trans ?_
      · simp; omega
      · simp; omega
      refine Hp.at_put_eq ?_
      · omega
      · omega
      · rfl
    refine GOps.r rfl rfl rfl rfl (grd_eql rfl rfl rfl) ?_
    refine GOps.r rfl rfl rfl rfl (grd_move rfl rfl) ?_
    refine GOps.split rfl rfl (fun a18 => ?_) (fun a18 => ?_)
    simp only [beq_true, beq_false, Bool.not_true, Bool.not_false, Bool.not_eq_true', Bool.not_eq_false', decide_eq_true_eq, decide_eq_false_iff_not] at a18
    refine GOps.take rfl rfl ?_ ?_
    · exact beq_iff_eq.2 (decide_eq_true (by assumption))
    refine GOps.r rfl rfl rfl rfl (grd_fieldAddr tab_is rfl rfl rfl rfl rfl) ?_
    refine GOps.take rfl rfl ?_ ?_
    · exact beq_iff_eq.2 (decide_eq_true (by assumption))
    refine GOps.r rfl rfl rfl rfl (grd_fieldAddr tab_is rfl rfl rfl rfl rfl) ?_
    refine GOps.take rfl rfl ?_ ?_
    · exact beq_iff_eq.2 (decide_eq_true (by assumption))
    focus
      refine GOps.r rfl rfl rfl rfl (grd_load1 (b := ?_) (v := ?_) tab_is rfl rfl rfl rfl ?_ ?_) ?_
      rotate_left 2
      refine Hp.at_put_eq ?_
      · omega
      · rfl
    refine GOps.take rfl rfl ?_ ?_
    · exact beq_iff_eq.2 (decide_eq_true (by assumption))
    refine GOps.r rfl rfl rfl rfl (grd_fieldAddr tab_is rfl rfl rfl rfl rfl) ?_
    refine GOps.take rfl rfl ?_ ?_
    · exact beq_iff_eq.2 (decide_eq_true (by assumption))
    refine GOps.r rfl rfl rfl rfl (grd_fieldAddr tab_is rfl rfl rfl rfl rfl) ?_
    refine GOps.take rfl rfl ?_ ?_
    · exact beq_iff_eq.2 (decide_eq_true (by assumption))
    focus
      refine GOps.r rfl rfl rfl rfl (grd_load1 (b := ?_) (v := ?_) tab_is rfl rfl rfl rfl ?_ ?_) ?_
      rotate_left 2
      refine Hp.at_put_eq ?_
      · omega
      · rfl
    refine GOps.take rfl rfl ?_ ?_
    · exact beq_iff_eq.2 (decide_eq_true (by assumption))
    refine GOps.r rfl rfl rfl rfl (grd_leq rfl rfl rfl) ?_
    refine GOps.r rfl rfl rfl rfl (grd_pick_t rfl rfl ?_ rfl) ?_
    · exact decide_eq_true (by assumption)
    refine GOps.nil ?_
    refine GWP.cond rfl (fun a19 => ?_) (fun a19 => ?_)
    simp only [beq_true, beq_false, Bool.not_true, Bool.not_false, Bool.not_eq_true', Bool.not_eq_false', decide_eq_true_eq, decide_eq_false_iff_not] at a19
    refine GWP.seq ?_
    refine GWP.region ?_
    focus
      refine GOps.r rfl rfl rfl rfl (grd_build (cs := ?_) tab_is rfl rfl rfl ?_ rfl ?_) ?_
      rotate_left 1
      · decide
      · simp [gfill, gsets, Value.cells]; rfl
    focus
      refine GOps.s rfl rfl rfl (gop_storeC (b := ?_) (cs := ?_) tab_is rfl rfl ?_ rfl rfl ?_ ?_ ?_ ?_ ?_ ?_) ?_
      rotate_left 2
      · rfl
      · rfl
      refine (Hp.at_put_ne ?_).trans ?_
      · omega
      refine (HExt.eq (by assumption) _ ?_ ?_).trans ?_
      · simp; omega
      · simp; omega
      refine (Hp.at_put_ne ?_).trans ?_
      · omega
      refine (HExt.eq (by assumption) _ ?_ ?_).trans ?_
      · simp; omega
      · simp; omega
      refine (Hp.at_put_ne ?_).trans ?_
      · omega
      refine (Hp.at_push_lt ?_).trans ?_
      · omega
      refine (HExt.eq (by assumption) _ ?_ ?_).trans ?_
      · simp; done
      · intro h; cases h; done
      · exact Hp.at_push_eq
      · rfl
      · decide
      · exact .inr (by simp)
      · simp [splice, Value.cells]; rfl
    refine GOps.r rfl rfl rfl rfl (grd_assign rfl rfl) ?_
    refine GOps.nil ?_
    refine GWP.ret ?_
    focus
      refine ⟨_, (.two (gres_cellNK (b := ?_) (cs := ?_) rfl rfl rfl ?_ ?_ ?_) (.one rfl)), ?_⟩
      rotate_left 2
      refine Hp.at_put_eq ?_
      · simp; omega
      · decide
      · simp [Value.cells]; rfl
    refine ⟨?_, ?_⟩
    · rw [if_pos (.inl (by omega))]; rfl
    refine HExt.put ?_ ?_
    refine HExt.put ?_ ?_
    refine HExt.tr ?_ (by assumption) ?_
    refine HExt.put ?_ ?_
    refine HExt.tr ?_ (by assumption) ?_
    refine HExt.put ?_ ?_
    refine HExt.push ?_
    refine HExt.tr ?_ (by assumption) ?_
    refine HExt.push ?_
    · exact HExt.refl _ _
    · intro _ h; cases h; done
    · exact .inr (by omega)
    · simp; omega
    · exact .inr (by omega)
    · simp; omega
    · exact .inr (by omega)
    · exact .inr (by omega)
    simp only [beq_true, beq_false, Bool.not_true, Bool.not_false, Bool.not_eq_true', Bool.not_eq_false', decide_eq_true_eq, decide_eq_false_iff_not] at a19
    refine GWP.skip ?_
    refine GWP.seq ?_
    refine GWP.seq ?_
    refine GWP.region ?_
    refine GOps.r rfl rfl rfl rfl (grd_move rfl rfl) ?_
    focus
      refine GOps.w1 rfl rfl rfl rfl (gop_call rfl Try.call25 rfl ?_ (g_end _ _ ?_ ?_ ?_ ?_)) ?_
      · intro _ h; cases h; done
      rotate_left 3
      refine rg_ne (b := ?_) ?_ ?_ ?_ ?_
      rotate_left 1
      focus
        · assumption
      refine (HExt.eq (by assumption) _ ?_ ?_).trans ?_
      · simp; omega
      · simp; omega
      refine Hp.at_put_eq ?_
      · omega
      · omega
      · rfl
    refine GOps.r rfl rfl rfl rfl (grd_neq rfl rfl rfl) ?_
    refine GOps.nil ?_
    refine GWP.cond rfl (fun a20 => ?_) (fun a20 => ?_)
    simp only [beq_true, beq_false, Bool.not_true, Bool.not_false, Bool.not_eq_true', Bool.not_eq_false', decide_eq_true_eq, decide_eq_false_iff_not] at a20
    refine GWP.seq ?_
    refine GWP.region ?_
    focus
      refine GOps.r rfl rfl rfl rfl (grd_build (cs := ?_) tab_is rfl rfl rfl ?_ rfl ?_) ?_
      rotate_left 1
      · decide
      · simp [gfill, gsets, Value.cells]; rfl
    focus
      refine GOps.s rfl rfl rfl (gop_storeC (b := ?_) (cs := ?_) tab_is rfl rfl ?_ rfl rfl ?_ ?_ ?_ ?_ ?_ ?_) ?_
      rotate_left 2
      · rfl
      · rfl
      refine (Hp.at_put_ne ?_).trans ?_
      · omega
      refine (HExt.eq (by assumption) _ ?_ ?_).trans ?_
      · simp; omega
      · simp; omega
      refine (Hp.at_put_ne ?_).trans ?_
      · omega
      refine (HExt.eq (by assumption) _ ?_ ?_).trans ?_
      · simp; omega
      · simp; omega
      refine (Hp.at_put_ne ?_).trans ?_
      · omega
      refine (Hp.at_push_lt ?_).trans ?_
      · omega
      refine (HExt.eq (by assumption) _ ?_ ?_).trans ?_
      · simp; done
      · intro h; cases h; done
      · exact Hp.at_push_eq
      · rfl
      · decide
      · exact .inr (by simp)
      · simp [splice, Value.cells]; rfl
    refine GOps.r rfl rfl rfl rfl (grd_assign rfl rfl) ?_
    refine GOps.nil ?_
    refine GWP.ret ?_
    focus
      refine ⟨_, (.two (gres_cellNK (b := ?_) (cs := ?_) rfl rfl rfl ?_ ?_ ?_) (.one rfl)), ?_⟩
      rotate_left 2
      refine Hp.at_put_eq ?_
      · simp; omega
      · decide
      · simp [Value.cells]; rfl
    refine ⟨?_, ?_⟩
    · rw [if_pos (.inr (by omega))]; rfl
    refine HExt.put ?_ ?_
    refine HExt.put ?_ ?_
    refine HExt.tr ?_ (by assumption) ?_
    refine HExt.put ?_ ?_
    refine HExt.tr ?_ (by assumption) ?_
    refine HExt.put ?_ ?_
    refine HExt.push ?_
    refine HExt.tr ?_ (by assumption) ?_
    refine HExt.push ?_
    · exact HExt.refl _ _
    · intro _ h; cases h; done
    · exact .inr (by omega)
    · simp; omega
    · exact .inr (by omega)
    · simp; omega
    · exact .inr (by omega)
    · exact .inr (by omega)
    simp only [beq_true, beq_false, Bool.not_true, Bool.not_false, Bool.not_eq_true', Bool.not_eq_false', decide_eq_true_eq, decide_eq_false_iff_not] at a20
    refine GWP.skip ?_
    refine GWP.seq ?_
    refine GWP.region ?_
    focus
      refine GOps.r rfl rfl rfl rfl (grd_loadNK (b := ?_) (cs := ?_) tab_is rfl rfl rfl rfl ?_ ?_ ?_) ?_
      rotate_left 2
      refine Hp.at_put_eq ?_
      · omega
      · exact Nat.le_of_ble_eq_true rfl
      · simp [Value.cells]; rfl
    focus
      refine GOps.s rfl rfl rfl (gop_storeC (b := ?_) (cs := ?_) tab_is rfl rfl ?_ rfl rfl ?_ ?_ ?_ ?_ ?_ ?_) ?_
      rotate_left 2
      · rfl
      · rfl
      refine (Hp.at_put_ne ?_).trans ?_
      · omega
      refine (HExt.eq (by assumption) _ ?_ ?_).trans ?_
      · simp; omega
      · simp; omega
      refine (Hp.at_put_ne ?_).trans ?_
      · omega
      refine (HExt.eq (by assumption) _ ?_ ?_).trans ?_
      · simp; omega
      · simp; omega
      refine (Hp.at_put_ne ?_).trans ?_
      · omega
      refine (Hp.at_push_lt ?_).trans ?_
      · omega
      refine (HExt.eq (by assumption) _ ?_ ?_).trans ?_
      · simp; done
      · intro h; cases h; done
      · exact Hp.at_push_eq
      · rfl
      · exact Nat.le_of_ble_eq_true rfl
      · exact .inr (by simp)
      · simp [splice, Value.cells]; rfl
    refine GOps.r rfl rfl rfl rfl (grd_assign rfl rfl) ?_
    refine GOps.nil ?_
    refine GWP.ret ?_
    focus
      refine ⟨_, (.two (gres_cellNK (b := ?_) (cs := ?_) rfl rfl rfl ?_ ?_ ?_) (.one rfl)), ?_⟩
      rotate_left 2
      refine Hp.at_put_eq ?_
      · simp; omega
      · exact Nat.le_of_ble_eq_true rfl
      · simp [Value.cells]; rfl
    refine ⟨?_, ?_⟩
    · rw [if_neg (by omega)]; rfl
    refine HExt.put ?_ ?_
    refine HExt.put ?_ ?_
    refine HExt.tr ?_ (by assumption) ?_
    refine HExt.put ?_ ?_
    refine HExt.tr ?_ (by assumption) ?_
    refine HExt.put ?_ ?_
    refine HExt.push ?_
    refine HExt.tr ?_ (by assumption) ?_
    refine HExt.push ?_
    · exact HExt.refl _ _
    · intro _ h; cases h; done
    · exact .inr (by omega)
    · simp; omega
    · exact .inr (by omega)
    · simp; omega
    · exact .inr (by omega)
    · exact .inr (by omega)
    simp only [beq_true, beq_false, Bool.not_true, Bool.not_false, Bool.not_eq_true', Bool.not_eq_false', decide_eq_true_eq, decide_eq_false_iff_not] at a18
    refine GOps.no rfl ?_ rfl rfl ?_
    · exact beq_eq_false_iff_ne.2 (by rw [decide_eq_false (by assumption)]; decide)
    refine GOps.no rfl ?_ rfl rfl ?_
    · exact beq_eq_false_iff_ne.2 (by rw [decide_eq_false (by assumption)]; decide)
    refine GOps.no rfl ?_ rfl rfl ?_
    · exact beq_eq_false_iff_ne.2 (by rw [decide_eq_false (by assumption)]; decide)
    refine GOps.no rfl ?_ rfl rfl ?_
    · exact beq_eq_false_iff_ne.2 (by rw [decide_eq_false (by assumption)]; decide)
    refine GOps.no rfl ?_ rfl rfl ?_
    · exact beq_eq_false_iff_ne.2 (by rw [decide_eq_false (by assumption)]; decide)
    refine GOps.no rfl ?_ rfl rfl ?_
    · exact beq_eq_false_iff_ne.2 (by rw [decide_eq_false (by assumption)]; decide)
    refine GOps.no rfl ?_ rfl rfl ?_
    · exact beq_eq_false_iff_ne.2 (by rw [decide_eq_false (by assumption)]; decide)
    refine GOps.r rfl rfl rfl rfl (grd_pick_f rfl rfl ?_ rfl) ?_
    · exact decide_eq_false (by assumption)
    refine GOps.nil ?_
    refine GWP.cond_f rfl ?_ ?_
    · with_reducible rfl
    refine GWP.skip ?_
    refine GWP.seq ?_
    refine GWP.seq ?_
    refine GWP.region ?_
    refine GOps.r rfl rfl rfl rfl (grd_move rfl rfl) ?_
    focus
      refine GOps.w1 rfl rfl rfl rfl (gop_call rfl Try.call25 rfl ?_ (g_end _ _ ?_ ?_ ?_ ?_)) ?_
      · intro _ h; cases h; done
      rotate_left 3
      refine rg_ne (b := ?_) ?_ ?_ ?_ ?_
      rotate_left 1
      focus
        · assumption
      refine (HExt.eq (by assumption) _ ?_ ?_).trans ?_
      · simp; omega
      · simp; omega
      refine Hp.at_put_eq ?_
      · omega
      · omega
      · rfl
    refine GOps.r rfl rfl rfl rfl (grd_neq rfl rfl rfl) ?_
    refine GOps.nil ?_
    refine GWP.cond rfl (fun a21 => ?_) (fun a21 => ?_)
    simp only [beq_true, beq_false, Bool.not_true, Bool.not_false, Bool.not_eq_true', Bool.not_eq_false', decide_eq_true_eq, decide_eq_false_iff_not] at a21
    refine GWP.seq ?_
    refine GWP.region ?_
    focus
      refine GOps.r rfl rfl rfl rfl (grd_build (cs := ?_) tab_is rfl rfl rfl ?_ rfl ?_) ?_
      rotate_left 1
      · decide
      · simp [gfill, gsets, Value.cells]; rfl
    focus
      refine GOps.s rfl rfl rfl (gop_storeC (b := ?_) (cs := ?_) tab_is rfl rfl ?_ rfl rfl ?_ ?_ ?_ ?_ ?_ ?_) ?_
      rotate_left 2
      · rfl
      · rfl
      refine (Hp.at_put_ne ?_).trans ?_
      · omega
      refine (HExt.eq (by assumption) _ ?_ ?_).trans ?_
      · simp; omega
      · simp; omega
      refine (Hp.at_put_ne ?_).trans ?_
      · omega
      refine (HExt.eq (by assumption) _ ?_ ?_).trans ?_
      · simp; omega
      · simp; omega
      refine (Hp.at_put_ne ?_).trans ?_
      · omega
      refine (Hp.at_push_lt ?_).trans ?_
      · omega
      refine (HExt.eq (by assumption) _ ?_ ?_).trans ?_
      · simp; done
      · intro h; cases h; done
      · exact Hp.at_push_eq
      · rfl
      · decide
      · exact .inr (by simp)
      · simp [splice, Value.cells]; rfl
    refine GOps.r rfl rfl rfl rfl (grd_assign rfl rfl) ?_
    refine GOps.nil ?_
    refine GWP.ret ?_
    focus
      refine ⟨_, (.two (gres_cellNK (b := ?_) (cs := ?_) rfl rfl rfl ?_ ?_ ?_) (.one rfl)), ?_⟩
      rotate_left 2
      refine Hp.at_put_eq ?_
      · simp; omega
      · decide
      · simp [Value.cells]; rfl
    refine ⟨?_, ?_⟩
    · rw [if_pos (.inr (by omega))]; rfl
    refine HExt.put ?_ ?_
    refine HExt.put ?_ ?_
    refine HExt.tr ?_ (by assumption) ?_
    refine HExt.put ?_ ?_
    refine HExt.tr ?_ (by assumption) ?_
    refine HExt.put ?_ ?_
    refine HExt.push ?_
    refine HExt.tr ?_ (by assumption) ?_
    refine HExt.push ?_
    · exact HExt.refl _ _
    · intro _ h; cases h; done
    · exact .inr (by omega)
    · simp; omega
    · exact .inr (by omega)
    · simp; omega
    · exact .inr (by omega)
    · exact .inr (by omega)
    simp only [beq_true, beq_false, Bool.not_true, Bool.not_false, Bool.not_eq_true', Bool.not_eq_false', decide_eq_true_eq, decide_eq_false_iff_not] at a21
    refine GWP.skip ?_
    refine GWP.seq ?_
    refine GWP.region ?_
    focus
      refine GOps.r rfl rfl rfl rfl (grd_loadNK (b := ?_) (cs := ?_) tab_is rfl rfl rfl rfl ?_ ?_ ?_) ?_
      rotate_left 2
      refine Hp.at_put_eq ?_
      · omega
      · exact Nat.le_of_ble_eq_true rfl
      · simp [Value.cells]; rfl
    focus
      refine GOps.s rfl rfl rfl (gop_storeC (b := ?_) (cs := ?_) tab_is rfl rfl ?_ rfl rfl ?_ ?_ ?_ ?_ ?_ ?_) ?_
      rotate_left 2
      · rfl
      · rfl
      refine (Hp.at_put_ne ?_).trans ?_
      · omega
      refine (HExt.eq (by assumption) _ ?_ ?_).trans ?_
      · simp; omega
      · simp; omega
      refine (Hp.at_put_ne ?_).trans ?_
      · omega
      refine (HExt.eq (by assumption) _ ?_ ?_).trans ?_
      · simp; omega
      · simp; omega
      refine (Hp.at_put_ne ?_).trans ?_
      · omega
      refine (Hp.at_push_lt ?_).trans ?_
      · omega
      refine (HExt.eq (by assumption) _ ?_ ?_).trans ?_
      · simp; done
      · intro h; cases h; done
      · exact Hp.at_push_eq
      · rfl
      · exact Nat.le_of_ble_eq_true rfl
      · exact .inr (by simp)
      · simp [splice, Value.cells]; rfl
    refine GOps.r rfl rfl rfl rfl (grd_assign rfl rfl) ?_
    refine GOps.nil ?_
    refine GWP.ret ?_
    focus
      refine ⟨_, (.two (gres_cellNK (b := ?_) (cs := ?_) rfl rfl rfl ?_ ?_ ?_) (.one rfl)), ?_⟩
      rotate_left 2
      refine Hp.at_put_eq ?_
      · simp; omega
      · exact Nat.le_of_ble_eq_true rfl
      · simp [Value.cells]; rfl
    refine ⟨?_, ?_⟩
    · rw [if_neg (by omega)]; rfl
    refine HExt.put ?_ ?_
    refine HExt.put ?_ ?_
    refine HExt.tr ?_ (by assumption) ?_
    refine HExt.put ?_ ?_
    refine HExt.tr ?_ (by assumption) ?_
    refine HExt.put ?_ ?_
    refine HExt.push ?_
    refine HExt.tr ?_ (by assumption) ?_
    refine HExt.push ?_
    · exact HExt.refl _ _
    · intro _ h; cases h; done
    · exact .inr (by omega)
    · simp; omega
    · exact .inr (by omega)
    · simp; omega
    · exact .inr (by omega)
    · exact .inr (by omega)
set_option maxHeartbeats 4000000 in
set_option maxRecDepth 100000 in
set_option linter.unusedSimpArgs false in
theorem g_parse4 (H : Hp) (p : Option Addr) (n c : Nat) (M : List UInt8) (hb : BS H (.slice p n c) (4 :: M)) (hn : n ≤ 35184372088832) (r1 r2 r3 : Nat × RdS) (h1 : RdS.number ⟨M, 0⟩ 1099511627776 = r1) (h2 : r1.2.number 1099511627776 = r2) (h3 : r2.2.number 2305843009213693950 = r3) : GCalls Try.prog 34 [.slice p n c] [] H fun v H' => v = (if r3.2.fin ≠ 0 then .tuple #[recV 0 0 0 0 0 (.slice none 0 0) 0 0 0, .int .i64 3] else .tuple #[recV 4 0 0 0 0 (.slice none 0 0) r1.1 r2.1 r3.1, .int .i64 0]) ∧ HExt [] H H' := by
  have hl := hb.len
  simp only [List.length_cons] at hl
  subst hl
  have t1 := numG_le h1
  have t2 := numG_le h2
  have t3 := numG_le h3
  refine GCalls.body tab_is Try.func34 rfl Try.results34 Try.ntmps34 (by simp) ?_ ?_
  · first | (intro _ h; cases h; done) | (simp; done) | (simp; omega) | (intro i hi; simp at hi; rcases hi with rfl | rfl <;> omega) | (intro i hi; simp at hi; rcases hi with rfl | rfl | rfl <;> omega)
  focus
    refine GWP.seq ?_
    refine GWP.region ?_
    focus
      refine GOps.w1 rfl rfl rfl rfl (gop_alloc' (id := ?_) ?_ tab_is rfl rfl ?_) ?_
      rotate_left 1
      · rfl
      · decide
    refine GOps.r rfl rfl rfl rfl (grd_assign rfl rfl) ?_
    refine GOps.nil ?_
    refine GWP.seq ?_
    refine GWP.seq ?_
    refine GWP.region ?_
    refine GOps.r rfl rfl rfl rfl (grd_move rfl rfl) ?_
    refine GOps.r rfl rfl rfl rfl (grd_len tab_is rfl rfl rfl rfl rfl) ?_
    refine GOps.r rfl rfl rfl rfl (grd_eql rfl rfl rfl) ?_
    refine GOps.nil ?_
    refine GWP.cond_f rfl ?_ ?_
    · exact decide_eq_false (by omega)
    refine GWP.skip ?_
    refine GWP.seq ?_
    refine GWP.region ?_
    refine GOps.r rfl rfl rfl rfl (grd_move rfl rfl) ?_
    focus
      refine gops_bs rfl rfl rfl rfl (grd_slBS (l := ?_) (h := ?_) (m2 := ?_) (L := ?_) (M := ?_) tab_is rfl rfl rfl rfl ?_ ?_ ?_ ?_ ?_ ?_ ?_) ?_
      rotate_left 5
      focus
        refine BS.ext (by assumption) ?_
        refine HExt.push ?_
        · exact HExt.refl _ _
      · refine gbound_const ?_; exact rfl
      · exact rfl
      · exact Nat.le_of_ble_eq_true rfl
      · omega
      · simp; rfl
      · refine Eq.trans (List.take_of_length_le ?_) ?_; rotate_left 1; rfl; (simp; done)
    intro pb1 cb1 b1
    have b1n := BS.len b1
    focus
      refine GOps.w rfl rfl rfl rfl (gop_call rfl Try.call17 rfl ?_ (g_vopen _ _ _ _ ?_ ?_ ?_)) ?_
      · intro _ h; cases h; done
      rotate_left 1
      · assumption
      · omega
    rintro _ Hxb7 ⟨⟨gb2, pb3, cb4, rfl, lb5, rb6⟩, xb7⟩
    simp at lb5
    have xb7l := HExt.len xb7; try simp at xb7l
    have rb6g := RG.hg rb6; unfold rdBlk at rb6g; have rb6q := Hp.at_lt rb6g
    refine GOps.r rfl rfl rfl rfl (grd_assign rfl rfl) ?_
    refine GOps.nil ?_
    refine GWP.seq ?_
    refine GWP.region ?_
    refine GOps.r rfl rfl rfl rfl (grd_move rfl rfl) ?_
    focus
      refine GOps.r rfl rfl rfl rfl (grd_indexBS (q := ?_) (L := ?_) tab_is rfl rfl rfl rfl rfl ?_ ?_ ?_) ?_
      rotate_left 2
      focus
        refine BS.ext (by assumption) ?_
        refine HExt.tr ?_ (by assumption) ?_
        refine HExt.push ?_
        · exact HExt.refl _ _
        · intro _ h; cases h; done
      · rfl
      · exact Nat.le_of_ble_eq_true rfl
    focus
      refine GOps.re rfl rfl rfl rfl (grd_loadBSK (n := ?_) (c := ?_) (L := ?_) (u := ?_) tab_is rfl rfl rfl rfl ?_ ?_ ?_) ?_
      rotate_left 4
      focus
        refine BS.ext (by assumption) ?_
        refine HExt.tr ?_ (by assumption) ?_
        refine HExt.push ?_
        · exact HExt.refl _ _
        · intro _ h; cases h; done
      · exact Nat.le_of_ble_eq_true rfl
      · simp only [List.getD_cons_zero]; rfl
    focus
      refine GOps.r rfl rfl rfl rfl (grd_build (cs := ?_) tab_is rfl rfl rfl ?_ rfl ?_) ?_
      rotate_left 1
      · decide
      · simp [gfill, gsets, Value.cells]; rfl
    focus
      refine GOps.w1 rfl rfl rfl rfl (gop_alloc' (id := ?_) ?_ tab_is rfl rfl ?_) ?_
      rotate_left 1
      · rfl
      · decide
    focus
      refine GOps.s rfl rfl rfl (gop_storeC (b := ?_) (cs := ?_) tab_is rfl rfl ?_ rfl rfl ?_ ?_ ?_ ?_ ?_ ?_) ?_
      rotate_left 2
      · rfl
      · rfl
      · exact Hp.at_push_eq
      · rfl
      · decide
      · exact .inr (by simp; omega)
      · simp [splice, Value.cells]; rfl
    refine GOps.nil ?_
    refine GWP.seq ?_
    refine GWP.seq ?_
    refine GWP.region ?_
    refine GOps.r rfl rfl rfl rfl (grd_fieldAddr tab_is rfl rfl rfl rfl rfl) ?_
    focus
      refine GOps.r rfl rfl rfl rfl (grd_load1 (b := ?_) (v := ?_) tab_is rfl rfl rfl rfl ?_ ?_) ?_
      rotate_left 2
      refine Hp.at_put_eq ?_
      · simp; done
      · rfl
    refine GOps.nil ?_
    refine GWP.block ?_
    refine GWP.seq ?_
    refine GWP.region ?_
    refine GOps.r rfl rfl rfl rfl (grd_eql rfl rfl rfl) ?_
    refine GOps.r rfl rfl rfl rfl (grd_assign rfl rfl) ?_
    refine GOps.nil ?_
    refine GWP.cond_f rfl ?_ ?_
    · exact decide_eq_false (by omega)
    refine GWP.seq ?_
    refine GWP.region ?_
    refine GOps.r rfl rfl rfl rfl (grd_eql rfl rfl rfl) ?_
    refine GOps.r rfl rfl rfl rfl (grd_assign rfl rfl) ?_
    refine GOps.nil ?_
    refine GWP.cond_f rfl ?_ ?_
    · exact decide_eq_false (by omega)
    refine GWP.seq ?_
    refine GWP.region ?_
    refine GOps.r rfl rfl rfl rfl (grd_eql rfl rfl rfl) ?_
    refine GOps.r rfl rfl rfl rfl (grd_assign rfl rfl) ?_
    refine GOps.nil ?_
    refine GWP.cond_f rfl ?_ ?_
    · exact decide_eq_false (by omega)
    refine GWP.seq ?_
    refine GWP.region ?_
    refine GOps.r rfl rfl rfl rfl (grd_eql rfl rfl rfl) ?_
    refine GOps.r rfl rfl rfl rfl (grd_assign rfl rfl) ?_
    refine GOps.nil ?_
    refine GWP.cond_t rfl ?_ ?_
    · exact decide_eq_true (by omega)
    refine GWP.seq ?_
    refine GWP.region ?_
    refine GOps.r rfl rfl rfl rfl (grd_move rfl rfl) ?_
    focus
      refine GOps.w rfl rfl rfl rfl (gop_call rfl Try.call24 rfl ?_ (g_numG _ _ _ h1 _ ?_ _ _ ?_ ?_ ?_)) ?_
      · simp [Ctx.may]; omega
      · omega
      rotate_left 2
      refine rg_ext (by assumption) ?_
      refine HExt.put ?_ ?_
      refine HExt.push ?_
      · exact HExt.refl _ _
      · exact .inr (by omega)
    rintro _ Hxb12 ⟨rfl, ⟨pb8, cb9, rb10⟩, kb11, xb12⟩
    have xb12l := HExt.len xb12; try simp at xb12l
    have rb10g := RG.hg rb10; unfold rdBlk at rb10g; have rb10q := Hp.at_lt rb10g
    refine GOps.r rfl rfl rfl rfl (grd_conv_in tab_is rfl rfl rfl rfl rfl ?_) ?_
    · refine wrap_i64_in ?_; omega
    refine GOps.r rfl rfl rfl rfl (grd_fieldAddr tab_is rfl rfl rfl rfl rfl) ?_
    focus
      refine GOps.s rfl rfl rfl (gop_store1 (b := ?_) tab_is rfl rfl rfl rfl rfl rfl ?_ ?_ ?_ ?_) ?_
      rotate_left 1
      refine (HExt.eq (by assumption) _ ?_ ?_).trans ?_
      · simp; done
      · simp; omega
      refine Hp.at_put_eq ?_
      · simp; done
      · rfl
      · decide
      · exact .inr (by simp; omega)
    refine GOps.nil ?_
    refine GWP.region ?_
    refine GOps.r rfl rfl rfl rfl (grd_move rfl rfl) ?_
    focus
      refine GOps.w rfl rfl rfl rfl (gop_call rfl Try.call24 rfl ?_ (g_numG _ _ _ h2 _ ?_ _ _ ?_ ?_ ?_)) ?_
      · simp [Ctx.may]; omega
      · omega
      rotate_left 2
      refine rg_ne (b := ?_) ?_ ?_ ?_ ?_
      rotate_left 1
      focus
        · assumption
      refine (HExt.eq (by assumption) _ ?_ ?_).trans ?_
      · simp; done
      · simp; omega
      refine Hp.at_put_eq ?_
      · simp; done
      · omega
      · rfl
    rintro _ Hxb17 ⟨rfl, ⟨pb13, cb14, rb15⟩, kb16, xb17⟩
    have xb17l := HExt.len xb17; try simp at xb17l
    have rb15g := RG.hg rb15; unfold rdBlk at rb15g; have rb15q := Hp.at_lt rb15g
    refine GOps.r rfl rfl rfl rfl (grd_move rfl rfl) ?_
    focus
      refine GOps.w rfl rfl rfl rfl (gop_call rfl Try.call24 rfl ?_ (g_numG _ _ _ h3 _ ?_ _ _ ?_ ?_ ?_)) ?_
      · simp [Ctx.may]; omega
      · omega
      rotate_left 2
      · assumption
    rintro _ Hxb22 ⟨rfl, ⟨pb18, cb19, rb20⟩, kb21, xb22⟩
    have xb22l := HExt.len xb22; try simp at xb22l
    have rb20g := RG.hg rb20; unfold rdBlk at rb20g; have rb20q := Hp.at_lt rb20g
    focus
      refine GOps.r rfl rfl rfl rfl (grd_build (cs := ?_) tab_is rfl rfl rfl ?_ rfl ?_) ?_
      rotate_left 1
      · decide
      · simp [gfill, gsets, Value.cells]; rfl
    refine GOps.r rfl rfl rfl rfl (grd_fieldAddr tab_is rfl rfl rfl rfl rfl) ?_
    focus
      refine GOps.s rfl rfl rfl (gop_storeC (b := ?_) (cs := ?_) tab_is rfl rfl ?_ rfl rfl ?_ ?_ ?_ ?_ ?_ ?_) ?_
      rotate_left 2
      · rfl
      · rfl
      refine (HExt.eq (by assumption) _ ?_ ?_).trans ?_
      · omega
      · simp; omega
      refine (HExt.eq (by assumption) _ ?_ ?_).trans ?_
      · simp; omega
      · simp; omega
      refine Hp.at_put_eq ?_
      · omega
      · rfl
      · exact Nat.le_of_ble_eq_true rfl
      · exact .inr (by simp; omega)
      · simp [splice, Value.cells]; rfl
    refine GOps.nil ?_
    refine GWP.seq ?_
    refine GWP.seq ?_
    refine GWP.region ?_
    refine GOps.r rfl rfl rfl rfl (grd_move rfl rfl) ?_
    focus
      refine GOps.w1 rfl rfl rfl rfl (gop_call rfl Try.call25 rfl ?_ (g_end _ _ ?_ ?_ ?_ ?_)) ?_
      · intro _ h; cases h; done
      rotate_left 3
      refine rg_ne (b := ?_) ?_ ?_ ?_ ?_
      rotate_left 1
      focus
        · assumption
      refine (HExt.eq (by assumption) _ ?_ ?_).trans ?_
      · omega
      · simp; omega
      refine (HExt.eq (by assumption) _ ?_ ?_).trans ?_
      · simp; omega
      · simp; omega
      refine Hp.at_put_eq ?_
      · omega
      · omega
      · rfl
    refine GOps.r rfl rfl rfl rfl (grd_neq rfl rfl rfl) ?_
    refine GOps.nil ?_
    refine GWP.cond rfl (fun b23 => ?_) (fun b23 => ?_)
    simp only [beq_true, beq_false, Bool.not_true, Bool.not_false, Bool.not_eq_true', Bool.not_eq_false', decide_eq_true_eq, decide_eq_false_iff_not] at b23
    refine GWP.seq ?_
    refine GWP.region ?_
    focus
      refine GOps.r rfl rfl rfl rfl (grd_build (cs := ?_) tab_is rfl rfl rfl ?_ rfl ?_) ?_
      rotate_left 1
      · decide
      · simp [gfill, gsets, Value.cells]; rfl
    focus
      refine GOps.s rfl rfl rfl (gop_storeC (b := ?_) (cs := ?_) tab_is rfl rfl ?_ rfl rfl ?_ ?_ ?_ ?_ ?_ ?_) ?_
      rotate_left 2
      · rfl
      · rfl
      refine (Hp.at_put_ne ?_).trans ?_
      · omega
      refine (HExt.eq (by assumption) _ ?_ ?_).trans ?_
      · omega
      · simp; omega
      refine (HExt.eq (by assumption) _ ?_ ?_).trans ?_
      · simp; omega
      · simp; omega
      refine (Hp.at_put_ne ?_).trans ?_
      · omega
      refine (HExt.eq (by assumption) _ ?_ ?_).trans ?_
      · simp; omega
      · simp; omega
      refine (Hp.at_put_ne ?_).trans ?_
      · omega
      refine (Hp.at_push_lt ?_).trans ?_
      · omega
      refine (HExt.eq (by assumption) _ ?_ ?_).trans ?_
      · simp; done
      · intro h; cases h; done
      · exact Hp.at_push_eq
      · rfl
      · decide
      · exact .inr (by simp)
      · simp [splice, Value.cells]; rfl
    refine GOps.r rfl rfl rfl rfl (grd_assign rfl rfl) ?_
    refine GOps.nil ?_
    refine GWP.ret ?_
    focus
      refine ⟨_, (.two (gres_cellNK (b := ?_) (cs := ?_) rfl rfl rfl ?_ ?_ ?_) (.one rfl)), ?_⟩
      rotate_left 2
      refine Hp.at_put_eq ?_
      · simp; omega
      · decide
      · simp [Value.cells]; rfl
    refine ⟨?_, ?_⟩
    · rw [if_pos (by omega)]; rfl
    refine HExt.put ?_ ?_
    refine HExt.put ?_ ?_
    refine HExt.tr ?_ (by assumption) ?_
    refine HExt.tr ?_ (by assumption) ?_
    refine HExt.put ?_ ?_
    refine HExt.tr ?_ (by assumption) ?_
    refine HExt.put ?_ ?_
    refine HExt.push ?_
    refine HExt.tr ?_ (by assumption) ?_
    refine HExt.push ?_
    · exact HExt.refl _ _
    · intro _ h; cases h; done
    · exact .inr (by omega)
    · simp; omega
    · exact .inr (by omega)
    · simp; omega
    · simp; omega
    · exact .inr (by omega)
    · exact .inr (by omega)
    simp only [beq_true, beq_false, Bool.not_true, Bool.not_false, Bool.not_eq_true', Bool.not_eq_false', decide_eq_true_eq, decide_eq_false_iff_not] at b23
    refine GWP.skip ?_
    refine GWP.seq ?_
    refine GWP.region ?_
    focus
      refine GOps.r rfl rfl rfl rfl (grd_loadNK (b := ?_) (cs := ?_) tab_is rfl rfl rfl rfl ?_ ?_ ?_) ?_
      rotate_left 2
      refine Hp.at_put_eq ?_
      · omega
      · exact Nat.le_of_ble_eq_true rfl
      · simp [Value.cells]; rfl
    focus
      refine GOps.s rfl rfl rfl (gop_storeC (b := ?_) (cs := ?_) tab_is rfl rfl ?_ rfl rfl ?_ ?_ ?_ ?_ ?_ ?_) ?_
      rotate_left 2
      · rfl
      · rfl
      refine (Hp.at_put_ne ?_).trans ?_
      · omega
      refine (HExt.eq (by assumption) _ ?_ ?_).trans ?_
      · omega
      · simp; omega
      refine (HExt.eq (by assumption) _ ?_ ?_).trans ?_
      · simp; omega
      · simp; omega
      refine (Hp.at_put_ne ?_).trans ?_
      · omega
      refine (HExt.eq (by assumption) _ ?_ ?_).trans ?_
      · simp; omega
      · simp; omega
      refine (Hp.at_put_ne ?_).trans ?_
      · omega
      refine (Hp.at_push_lt ?_).trans ?_
      · omega
      refine (HExt.eq (by assumption) _ ?_ ?_).trans ?_
      · simp; done
      · intro h; cases h; done
      · exact Hp.at_push_eq
      · rfl
      · exact Nat.le_of_ble_eq_true rfl
      · exact .inr (by simp)
      · simp [splice, Value.cells]; rfl
    refine GOps.r rfl rfl rfl rfl (grd_assign rfl rfl) ?_
    refine GOps.nil ?_
    refine GWP.ret ?_
    focus
      refine ⟨_, (.two (gres_cellNK (b := ?_) (cs := ?_) rfl rfl rfl ?_ ?_ ?_) (.one rfl)), ?_⟩
      rotate_left 2
      refine Hp.at_put_eq ?_
      · simp; omega
      · exact Nat.le_of_ble_eq_true rfl
      · simp [Value.cells]; rfl
    refine ⟨?_, ?_⟩
    · rw [if_neg (by omega)]; rfl
    refine HExt.put ?_ ?_
    refine HExt.put ?_ ?_
    refine HExt.tr ?_ (by assumption) ?_
    refine HExt.tr ?_ (by assumption) ?_
    refine HExt.put ?_ ?_
    refine HExt.tr ?_ (by assumption) ?_
    refine HExt.put ?_ ?_
    refine HExt.push ?_
    refine HExt.tr ?_ (by assumption) ?_
    refine HExt.push ?_
    · exact HExt.refl _ _
    · intro _ h; cases h; done
    · exact .inr (by omega)
    · simp; omega
    · exact .inr (by omega)
    · simp; omega
    · simp; omega
    · exact .inr (by omega)
    · exact .inr (by omega)
set_option maxHeartbeats 4000000 in
set_option maxRecDepth 100000 in
set_option linter.unusedSimpArgs false in
theorem g_parse0 (H : Hp) (p : Option Addr) (n c : Nat) (hb : BS H (.slice p n c) []) : GCalls Try.prog 34 [.slice p n c] [] H fun v H' => v = .tuple #[recV 0 0 0 0 0 (.slice none 0 0) 0 0 0, .int .i64 3] ∧ HExt [] H H' := by
  have hl := hb.len
  simp only [List.length_nil] at hl
  subst hl
  refine GCalls.body tab_is Try.func34 rfl Try.results34 Try.ntmps34 (by simp) ?_ ?_
  · first | (intro _ h; cases h; done) | (simp; done) | (simp; omega) | (intro i hi; simp at hi; rcases hi with rfl | rfl <;> omega) | (intro i hi; simp at hi; rcases hi with rfl | rfl | rfl <;> omega)
  focus
    refine GWP.seq ?_
    refine GWP.region ?_
    focus
      refine GOps.w1 rfl rfl rfl rfl (gop_alloc' (id := ?_) ?_ tab_is rfl rfl ?_) ?_
      rotate_left 1
      · rfl
      · decide
    refine GOps.r rfl rfl rfl rfl (grd_assign rfl rfl) ?_
    refine GOps.nil ?_
    refine GWP.seq ?_
    refine GWP.seq ?_
    refine GWP.region ?_
    refine GOps.r rfl rfl rfl rfl (grd_move rfl rfl) ?_
    refine GOps.r rfl rfl rfl rfl (grd_len tab_is rfl rfl rfl rfl rfl) ?_
    refine GOps.r rfl rfl rfl rfl (grd_eql rfl rfl rfl) ?_
    refine GOps.nil ?_
    refine GWP.cond_t rfl ?_ ?_
    · exact decide_eq_true (by omega)
    refine GWP.seq ?_
    refine GWP.region ?_
    focus
      refine GOps.r rfl rfl rfl rfl (grd_build (cs := ?_) tab_is rfl rfl rfl ?_ rfl ?_) ?_
      rotate_left 1
      · decide
      · simp [gfill, gsets, Value.cells]; rfl
    focus
      refine GOps.s rfl rfl rfl (gop_storeC (b := ?_) (cs := ?_) tab_is rfl rfl ?_ rfl rfl ?_ ?_ ?_ ?_ ?_ ?_) ?_
      rotate_left 2
      · rfl
      · rfl
      · exact Hp.at_push_eq
      · rfl
      · decide
      · exact .inr (by simp)
      · simp [splice, Value.cells]; rfl
    refine GOps.r rfl rfl rfl rfl (grd_assign rfl rfl) ?_
    refine GOps.nil ?_
    refine GWP.ret ?_
    focus
      refine ⟨_, (.two (gres_cellNK (b := ?_) (cs := ?_) rfl rfl rfl ?_ ?_ ?_) (.one rfl)), ?_⟩
      rotate_left 2
      refine Hp.at_put_eq ?_
      · simp; done
      · decide
      · simp [Value.cells]; rfl
    refine ⟨?_, ?_⟩
    · rfl
    refine HExt.put ?_ ?_
    refine HExt.push ?_
    · exact HExt.refl _ _
    · exact .inr (by omega)
set_option maxHeartbeats 4000000 in
set_option maxRecDepth 100000 in
set_option linter.unusedSimpArgs false in
theorem g_parse5 (H : Hp) (p : Option Addr) (n c : Nat) (k : UInt8) (M : List UInt8) (hb : BS H (.slice p n c) (k :: M)) (hn : n ≤ 35184372088832) (hk : k.toNat = 0 ∨ 4 < k.toNat) : GCalls Try.prog 34 [.slice p n c] [] H fun v H' => v = .tuple #[recV 0 0 0 0 0 (.slice none 0 0) 0 0 0, .int .i64 3] ∧ HExt [] H H' := by
  have hl := hb.len
  simp only [List.length_cons] at hl
  subst hl
  refine GCalls.body tab_is Try.func34 rfl Try.results34 Try.ntmps34 (by simp) ?_ ?_
  · first | (intro _ h; cases h; done) | (simp; done) | (simp; omega) | (intro i hi; simp at hi; rcases hi with rfl | rfl <;> omega) | (intro i hi; simp at hi; rcases hi with rfl | rfl | rfl <;> omega)
  focus
    refine GWP.seq ?_
    refine GWP.region ?_
    focus
      refine GOps.w1 rfl rfl rfl rfl (gop_alloc' (id := ?_) ?_ tab_is rfl rfl ?_) ?_
      rotate_left 1
      · rfl
      · decide
    refine GOps.r rfl rfl rfl rfl (grd_assign rfl rfl) ?_
    refine GOps.nil ?_
    refine GWP.seq ?_
    refine GWP.seq ?_
    refine GWP.region ?_
    refine GOps.r rfl rfl rfl rfl (grd_move rfl rfl) ?_
    refine GOps.r rfl rfl rfl rfl (grd_len tab_is rfl rfl rfl rfl rfl) ?_
    refine GOps.r rfl rfl rfl rfl (grd_eql rfl rfl rfl) ?_
    refine GOps.nil ?_
    refine GWP.cond_f rfl ?_ ?_
    · exact decide_eq_false (by omega)
    refine GWP.skip ?_
    refine GWP.seq ?_
    refine GWP.region ?_
    refine GOps.r rfl rfl rfl rfl (grd_move rfl rfl) ?_
    focus
      refine gops_bs rfl rfl rfl rfl (grd_slBS (l := ?_) (h := ?_) (m2 := ?_) (L := ?_) (M := ?_) tab_is rfl rfl rfl rfl ?_ ?_ ?_ ?_ ?_ ?_ ?_) ?_
      rotate_left 5
      focus
        refine BS.ext (by assumption) ?_
        refine HExt.push ?_
        · exact HExt.refl _ _
      · refine gbound_const ?_; exact rfl
      · exact rfl
      · exact Nat.le_of_ble_eq_true rfl
      · omega
      · simp; rfl
      · refine Eq.trans (List.take_of_length_le ?_) ?_; rotate_left 1; rfl; (simp; done)
    intro pe1 ce1 e1
    have e1n := BS.len e1
    focus
      refine GOps.w rfl rfl rfl rfl (gop_call rfl Try.call17 rfl ?_ (g_vopen _ _ _ _ ?_ ?_ ?_)) ?_
      · intro _ h; cases h; done
      rotate_left 1
      · assumption
      · omega
    rintro _ Hxe7 ⟨⟨ge2, pe3, ce4, rfl, le5, re6⟩, xe7⟩
    simp at le5
    have xe7l := HExt.len xe7; try simp at xe7l
    have re6g := RG.hg re6; unfold rdBlk at re6g; have re6q := Hp.at_lt re6g
    refine GOps.r rfl rfl rfl rfl (grd_assign rfl rfl) ?_
    refine GOps.nil ?_
    refine GWP.seq ?_
    refine GWP.region ?_
    refine GOps.r rfl rfl rfl rfl (grd_move rfl rfl) ?_
    focus
      refine GOps.r rfl rfl rfl rfl (grd_indexBS (q := ?_) (L := ?_) tab_is rfl rfl rfl rfl rfl ?_ ?_ ?_) ?_
      rotate_left 2
      focus
        refine BS.ext (by assumption) ?_
        refine HExt.tr ?_ (by assumption) ?_
        refine HExt.push ?_
        · exact HExt.refl _ _
        · intro _ h; cases h; done
      · rfl
      · exact Nat.le_of_ble_eq_true rfl
    focus
      refine GOps.re rfl rfl rfl rfl (grd_loadBSK (n := ?_) (c := ?_) (L := ?_) (u := ?_) tab_is rfl rfl rfl rfl ?_ ?_ ?_) ?_
      rotate_left 4
      focus
        refine BS.ext (by assumption) ?_
        refine HExt.tr ?_ (by assumption) ?_
        refine HExt.push ?_
        · exact HExt.refl _ _
        · intro _ h; cases h; done
      · exact Nat.le_of_ble_eq_true rfl
      · simp only [List.getD_cons_zero]; rfl
    focus
      refine GOps.r rfl rfl rfl rfl (grd_build (cs := ?_) tab_is rfl rfl rfl ?_ rfl ?_) ?_
      rotate_left 1
      · decide
      · simp [gfill, gsets, Value.cells]; rfl
    focus
      refine GOps.w1 rfl rfl rfl rfl (gop_alloc' (id := ?_) ?_ tab_is rfl rfl ?_) ?_
      rotate_left 1
      · rfl
      · decide
    focus
      refine GOps.s rfl rfl rfl (gop_storeC (b := ?_) (cs := ?_) tab_is rfl rfl ?_ rfl rfl ?_ ?_ ?_ ?_ ?_ ?_) ?_
      rotate_left 2
      · rfl
      · rfl
      · exact Hp.at_push_eq
      · rfl
      · exact Nat.le_of_ble_eq_true rfl
      · exact .inr (by simp; omega)
      · simp [splice, Value.cells]; rfl
    refine GOps.nil ?_
    refine GWP.seq ?_
    refine GWP.seq ?_
    refine GWP.region ?_
    refine GOps.r rfl rfl rfl rfl (grd_fieldAddr tab_is rfl rfl rfl rfl rfl) ?_
    focus
      refine GOps.r rfl rfl rfl rfl (grd_load1 (b := ?_) (v := ?_) tab_is rfl rfl rfl rfl ?_ ?_) ?_
      rotate_left 2
      refine Hp.at_put_eq ?_
      · simp; done
      · rfl
    refine GOps.nil ?_
    refine GWP.block ?_
    refine GWP.seq ?_
    refine GWP.region ?_
    refine GOps.r rfl rfl rfl rfl (grd_eql rfl rfl rfl) ?_
    refine GOps.r rfl rfl rfl rfl (grd_assign rfl rfl) ?_
    refine GOps.nil ?_
    refine GWP.cond_f rfl ?_ ?_
    · exact decide_eq_false (by omega)
    refine GWP.seq ?_
    refine GWP.region ?_
    refine GOps.r rfl rfl rfl rfl (grd_eql rfl rfl rfl) ?_
    refine GOps.r rfl rfl rfl rfl (grd_assign rfl rfl) ?_
    refine GOps.nil ?_
    refine GWP.cond_f rfl ?_ ?_
    · exact decide_eq_false (by omega)
    refine GWP.seq ?_
    refine GWP.region ?_
    refine GOps.r rfl rfl rfl rfl (grd_eql rfl rfl rfl) ?_
    refine GOps.r rfl rfl rfl rfl (grd_assign rfl rfl) ?_
    refine GOps.nil ?_
    refine GWP.cond_f rfl ?_ ?_
    · exact decide_eq_false (by omega)
    refine GWP.seq ?_
    refine GWP.region ?_
    refine GOps.r rfl rfl rfl rfl (grd_eql rfl rfl rfl) ?_
    refine GOps.r rfl rfl rfl rfl (grd_assign rfl rfl) ?_
    refine GOps.nil ?_
    refine GWP.cond_f rfl ?_ ?_
    · exact decide_eq_false (by omega)
    refine GWP.seq ?_
    refine GWP.region ?_
    focus
      refine GOps.r rfl rfl rfl rfl (grd_build (cs := ?_) tab_is rfl rfl rfl ?_ rfl ?_) ?_
      rotate_left 1
      · decide
      · simp [gfill, gsets, Value.cells]; rfl
    focus
      refine GOps.s rfl rfl rfl (gop_storeC (b := ?_) (cs := ?_) tab_is rfl rfl ?_ rfl rfl ?_ ?_ ?_ ?_ ?_ ?_) ?_
      rotate_left 2
      · rfl
      · rfl
      refine (Hp.at_put_ne ?_).trans ?_
      · omega
      refine (Hp.at_push_lt ?_).trans ?_
      · omega
      refine (HExt.eq (by assumption) _ ?_ ?_).trans ?_
      · simp; done
      · intro h; cases h; done
      · exact Hp.at_push_eq
      · rfl
      · decide
      · exact .inr (by simp)
      · simp [splice, Value.cells]; rfl
    refine GOps.r rfl rfl rfl rfl (grd_assign rfl rfl) ?_
    refine GOps.nil ?_
    refine GWP.ret ?_
    focus
      refine ⟨_, (.two (gres_cellNK (b := ?_) (cs := ?_) rfl rfl rfl ?_ ?_ ?_) (.one rfl)), ?_⟩
      rotate_left 2
      refine Hp.at_put_eq ?_
      · simp; omega
      · decide
      · simp [Value.cells]; rfl
    refine ⟨?_, ?_⟩
    · rfl
    refine HExt.put ?_ ?_
    refine HExt.put ?_ ?_
    refine HExt.push ?_
    refine HExt.tr ?_ (by assumption) ?_
    refine HExt.push ?_
    · exact HExt.refl _ _
    · intro _ h; cases h; done
    · exact .inr (by omega)
    · exact .inr (by omega)
set_option maxHeartbeats 4000000 in
set_option maxRecDepth 100000 in
set_option linter.unusedSimpArgs false in
theorem g_parse2no (H : Hp) (p : Option Addr) (n c : Nat) (M : List UInt8) (hb : BS H (.slice p n c) (2 :: M)) (hn : n ≤ 35184372088832) (q1 q2 q3 : Nat) (hq : next M = (q1, q2, q3)) (hq2 : q3 = 0 → q2 ≤ M.length) (hno : q3 = 0 → q1 < 256 → ¬ dataOk q1 (M.drop q2).length) : GCalls Try.prog 34 [.slice p n c] [] H fun v H' => v = .tuple #[recV 0 0 0 0 0 (.slice none 0 0) 0 0 0, .int .i64 3] ∧ HExt [] H H' := by
  have hl := hb.len
  simp only [List.length_cons] at hl
  subst hl
  have hN : ∀ H p n c, BS H (.slice p n c) M → n ≤ 9223372036854775000 → GCalls Try.prog 50 [.slice p n c] [] H fun v H' => v = .tuple #[.int .u64 (q1 : Int), .int .i64 (q2 : Int), .int .i64 (q3 : Int)] ∧ H' = H := fun H p n c h1 h2 => by
    have := g_next H p n c M h1 h2
    rw [hq] at this
    exact this
  clear hq
  by_cases h3 : q3 = 0
  · have hq2 := hq2 h3
    have hno2 := hno h3
    clear hno
    subst h3
    have hL : (M.drop q2).length = M.length + 1 - (1 + q2) := by rw [List.length_drop]; omega
    rw [hL] at hno2
    by_cases h1 : q1 < 256
    · have hd := hno2 h1
      clear hno2 hL
      refine GCalls.body tab_is Try.func34 rfl Try.results34 Try.ntmps34 (by simp) ?_ ?_
      · first | (intro _ h; cases h; done) | (simp; done) | (simp; omega) | (intro i hi; simp at hi; rcases hi with rfl | rfl <;> omega) | (intro i hi; simp at hi; rcases hi with rfl | rfl | rfl <;> omega)
      focus
        refine GWP.seq ?_
        refine GWP.region ?_
        focus
          refine GOps.w1 rfl rfl rfl rfl (gop_alloc' (id := ?_) ?_ tab_is rfl rfl ?_) ?_
          rotate_left 1
          · rfl
          · decide
        refine GOps.r rfl rfl rfl rfl (grd_assign rfl rfl) ?_
        refine GOps.nil ?_
        refine GWP.seq ?_
        refine GWP.seq ?_
        refine GWP.region ?_
        refine GOps.r rfl rfl rfl rfl (grd_move rfl rfl) ?_
        refine GOps.r rfl rfl rfl rfl (grd_len tab_is rfl rfl rfl rfl rfl) ?_
        refine GOps.r rfl rfl rfl rfl (grd_eql rfl rfl rfl) ?_
        refine GOps.nil ?_
        refine GWP.cond_f rfl ?_ ?_
        · exact decide_eq_false (by omega)
        refine GWP.skip ?_
        refine GWP.seq ?_
        refine GWP.region ?_
        refine GOps.r rfl rfl rfl rfl (grd_move rfl rfl) ?_
        focus
          refine gops_bs rfl rfl rfl rfl (grd_slBS (l := ?_) (h := ?_) (m2 := ?_) (L := ?_) (M := ?_) tab_is rfl rfl rfl rfl ?_ ?_ ?_ ?_ ?_ ?_ ?_) ?_
          rotate_left 5
          focus
            refine BS.ext (by assumption) ?_
            refine HExt.push ?_
            · exact HExt.refl _ _
          · refine gbound_const ?_; exact rfl
          · exact rfl
          · exact Nat.le_of_ble_eq_true rfl
          · omega
          · simp; rfl
          · refine Eq.trans (List.take_of_length_le ?_) ?_; rotate_left 1; rfl; (simp; done)
        intro pg1 cg1 g1
        have g1n := BS.len g1
        focus
          refine GOps.w rfl rfl rfl rfl (gop_call rfl Try.call17 rfl ?_ (g_vopen _ _ _ _ ?_ ?_ ?_)) ?_
          · intro _ h; cases h; done
          rotate_left 1
          · assumption
          · omega
        rintro _ Hxg7 ⟨⟨gg2, pg3, cg4, rfl, lg5, rg6⟩, xg7⟩
        simp at lg5
        have xg7l := HExt.len xg7; try simp at xg7l
        refine GOps.r rfl rfl rfl rfl (grd_assign rfl rfl) ?_
        refine GOps.nil ?_
        refine GWP.seq ?_
        refine GWP.region ?_
        refine GOps.r rfl rfl rfl rfl (grd_move rfl rfl) ?_
        focus
          refine GOps.r rfl rfl rfl rfl (grd_indexBS (q := ?_) (L := ?_) tab_is rfl rfl rfl rfl rfl ?_ ?_ ?_) ?_
          rotate_left 2
          focus
            refine BS.ext (by assumption) ?_
            refine HExt.tr ?_ (by assumption) ?_
            refine HExt.push ?_
            · exact HExt.refl _ _
            · intro _ h; cases h; done
          · rfl
          · exact Nat.le_of_ble_eq_true rfl
        focus
          refine GOps.re rfl rfl rfl rfl (grd_loadBSK (n := ?_) (c := ?_) (L := ?_) (u := ?_) tab_is rfl rfl rfl rfl ?_ ?_ ?_) ?_
          rotate_left 4
          focus
            refine BS.ext (by assumption) ?_
            refine HExt.tr ?_ (by assumption) ?_
            refine HExt.push ?_
            · exact HExt.refl _ _
            · intro _ h; cases h; done
          · exact Nat.le_of_ble_eq_true rfl
          · simp only [List.getD_cons_zero]; rfl
        focus
          refine GOps.r rfl rfl rfl rfl (grd_build (cs := ?_) tab_is rfl rfl rfl ?_ rfl ?_) ?_
          rotate_left 1
          · decide
          · simp [gfill, gsets, Value.cells]; rfl
        focus
          refine GOps.w1 rfl rfl rfl rfl (gop_alloc' (id := ?_) ?_ tab_is rfl rfl ?_) ?_
          rotate_left 1
          · rfl
          · decide
        focus
          refine GOps.s rfl rfl rfl (gop_storeC (b := ?_) (cs := ?_) tab_is rfl rfl ?_ rfl rfl ?_ ?_ ?_ ?_ ?_ ?_) ?_
          rotate_left 2
          · rfl
          · rfl
          · exact Hp.at_push_eq
          · rfl
          · decide
          · exact .inr (by simp; omega)
          · simp [splice, Value.cells]; rfl
        refine GOps.nil ?_
        refine GWP.seq ?_
        refine GWP.seq ?_
        refine GWP.region ?_
        refine GOps.r rfl rfl rfl rfl (grd_fieldAddr tab_is rfl rfl rfl rfl rfl) ?_
        focus
          refine GOps.r rfl rfl rfl rfl (grd_load1 (b := ?_) (v := ?_) tab_is rfl rfl rfl rfl ?_ ?_) ?_
          rotate_left 2
          refine Hp.at_put_eq ?_
          · simp; done
          · rfl
        refine GOps.nil ?_
        refine GWP.block ?_
        refine GWP.seq ?_
        refine GWP.region ?_
        refine GOps.r rfl rfl rfl rfl (grd_eql rfl rfl rfl) ?_
        refine GOps.r rfl rfl rfl rfl (grd_assign rfl rfl) ?_
        refine GOps.nil ?_
        refine GWP.cond_f rfl ?_ ?_
        · exact decide_eq_false (by omega)
        refine GWP.seq ?_
        refine GWP.region ?_
        refine GOps.r rfl rfl rfl rfl (grd_eql rfl rfl rfl) ?_
        refine GOps.r rfl rfl rfl rfl (grd_assign rfl rfl) ?_
        refine GOps.nil ?_
        refine GWP.cond_t rfl ?_ ?_
        · exact decide_eq_true (by omega)
        refine GWP.seq ?_
        refine GWP.region ?_
        refine GOps.r rfl rfl rfl rfl (grd_move rfl rfl) ?_
        focus
          refine gops_bs rfl rfl rfl rfl (grd_slBS (l := ?_) (h := ?_) (m2 := ?_) (L := ?_) (M := ?_) tab_is rfl rfl rfl rfl ?_ ?_ ?_ ?_ ?_ ?_ ?_) ?_
          rotate_left 5
          focus
            refine BS.ext (by assumption) ?_
            refine HExt.put ?_ ?_
            refine HExt.push ?_
            refine HExt.tr ?_ (by assumption) ?_
            refine HExt.push ?_
            · exact HExt.refl _ _
            · intro _ h; cases h; done
            · exact .inr (by omega)
          · refine gbound_const ?_; exact rfl
          · exact rfl
          · exact Nat.le_of_ble_eq_true rfl
          · omega
          · simp; rfl
          · refine Eq.trans (List.take_of_length_le ?_) ?_; rotate_left 1; rfl; (simp; done)
        intro pg8 cg8 g8
        have g8n := BS.len g8
        refine GOps.w1 rfl rfl rfl rfl (gop_call rfl Try.call50 rfl ?_ (hN _ _ _ _ ?_ ?_)) ?_
        · intro _ h; cases h; done
        · assumption
        · omega
        refine GOps.r rfl rfl rfl rfl (grd_move rfl rfl) ?_
        focus
          refine GOps.r rfl rfl rfl rfl (grd_extract (v := ?_) rfl rfl ?_) ?_
          rotate_left 1
          · simp only [List.getElem?_toArray, List.getElem?_cons_zero, List.getElem?_cons_succ]; rfl
        focus
          refine GOps.r rfl rfl rfl rfl (grd_extract (v := ?_) rfl rfl ?_) ?_
          rotate_left 1
          · simp only [List.getElem?_toArray, List.getElem?_cons_zero, List.getElem?_cons_succ]; rfl
        focus
          refine GOps.r rfl rfl rfl rfl (grd_extract (v := ?_) rfl rfl ?_) ?_
          rotate_left 1
          · simp only [List.getElem?_toArray, List.getElem?_cons_zero, List.getElem?_cons_succ]; rfl
        refine GOps.r rfl rfl rfl rfl (grd_assign rfl rfl) ?_
        refine GOps.r rfl rfl rfl rfl (grd_assign rfl rfl) ?_
        refine GOps.r rfl rfl rfl rfl (grd_assign rfl rfl) ?_
        refine GOps.nil ?_
        refine GWP.seq ?_
        refine GWP.seq ?_
        refine GWP.region ?_
        refine GOps.r rfl rfl rfl rfl (grd_move rfl rfl) ?_
        refine GOps.r rfl rfl rfl rfl (grd_neq rfl rfl rfl) ?_
        refine GOps.r rfl rfl rfl rfl (grd_move rfl rfl) ?_
        refine GOps.take rfl rfl ?_ ?_
        · simp; done
        refine GOps.r rfl rfl rfl rfl (grd_move rfl rfl) ?_
        refine GOps.take rfl rfl ?_ ?_
        · simp; done
        refine GOps.r rfl rfl rfl rfl (grd_geq rfl rfl rfl) ?_
        refine GOps.r rfl rfl rfl rfl (grd_pick_f rfl rfl ?_ rfl) ?_
        · exact decide_eq_false (by omega)
        refine GOps.nil ?_
        refine GWP.cond_f rfl ?_ ?_
        · exact decide_eq_false (by omega)
        refine GWP.skip ?_
        refine GWP.seq ?_
        refine GWP.region ?_
        refine GOps.r rfl rfl rfl rfl (grd_move rfl rfl) ?_
        refine GOps.r rfl rfl rfl rfl (grd_conv_in tab_is rfl rfl rfl rfl rfl ?_) ?_
        · refine wrap_i64_in ?_; omega
        refine GOps.r rfl rfl rfl rfl (grd_move rfl rfl) ?_
        refine GOps.r rfl rfl rfl rfl (grd_move rfl rfl) ?_
        refine GOps.r rfl rfl rfl rfl (grd_add64 rfl rfl rfl ?_) ?_
        · omega
        focus
          refine gops_bs rfl rfl rfl rfl (grd_slBS (l := ?_) (h := ?_) (m2 := ?_) (L := ?_) (M := ?_) tab_is rfl rfl rfl rfl ?_ ?_ ?_ ?_ ?_ ?_ ?_) ?_
          rotate_left 5
          focus
            refine BS.ext (by assumption) ?_
            refine HExt.put ?_ ?_
            refine HExt.push ?_
            refine HExt.tr ?_ (by assumption) ?_
            refine HExt.push ?_
            · exact HExt.refl _ _
            · intro _ h; cases h; done
            · exact .inr (by omega)
          · refine gbound_tmp rfl ?_; exact rfl
          · exact rfl
          · simp; omega
          · omega
          · simp; rfl
          · refine Eq.trans (List.take_of_length_le ?_) ?_; rotate_left 1; rfl; (simp; done)
        intro pg9 cg9 g9
        have g9n := BS.len g9
        refine GOps.w rfl rfl rfl rfl (gop_call rfl Try.call55 rfl ?_ (g_rdata_no _ _ ?_ _ _ _ ?_ ?_)) ?_
        · intro _ h; cases h; done
        · omega
        · omega
        · assumption
        rintro _ Hxg10 ⟨rfl, xg10⟩
        have xg10l := HExt.len xg10; try simp at xg10l
        focus
          refine GOps.r rfl rfl rfl rfl (grd_extract (v := ?_) rfl rfl ?_) ?_
          rotate_left 1
          · simp only [List.getElem?_toArray, List.getElem?_cons_zero, List.getElem?_cons_succ]; rfl
        focus
          refine GOps.r rfl rfl rfl rfl (grd_extract (v := ?_) rfl rfl ?_) ?_
          rotate_left 1
          · simp only [List.getElem?_toArray, List.getElem?_cons_zero, List.getElem?_cons_succ]; rfl
        focus
          refine GOps.s rfl rfl rfl (gop_storeC (b := ?_) (cs := ?_) tab_is rfl rfl ?_ rfl rfl ?_ ?_ ?_ ?_ ?_ ?_) ?_
          rotate_left 2
          · rfl
          · rfl
          refine (HExt.eq (by assumption) _ ?_ ?_).trans ?_
          · simp; omega
          · intro h; cases h; done
          refine (Hp.at_put_ne ?_).trans ?_
          · omega
          refine (Hp.at_push_lt ?_).trans ?_
          · omega
          refine (HExt.eq (by assumption) _ ?_ ?_).trans ?_
          · simp; done
          · intro h; cases h; done
          · exact Hp.at_push_eq
          · rfl
          · decide
          · exact .inr (by simp)
          · simp [splice, Value.cells]; rfl
        refine GOps.r rfl rfl rfl rfl (grd_assign rfl rfl) ?_
        refine GOps.nil ?_
        refine GWP.ret ?_
        focus
          refine ⟨_, (.two (gres_cellNK (b := ?_) (cs := ?_) rfl rfl rfl ?_ ?_ ?_) (.one rfl)), ?_⟩
          rotate_left 2
          refine Hp.at_put_eq ?_
          · omega
          · decide
          · simp [Value.cells]; rfl
        refine ⟨?_, ?_⟩
        · rfl
        refine HExt.put ?_ ?_
        refine HExt.tr ?_ (by assumption) ?_
        refine HExt.put ?_ ?_
        refine HExt.push ?_
        refine HExt.tr ?_ (by assumption) ?_
        refine HExt.push ?_
        · exact HExt.refl _ _
        · intro _ h; cases h; done
        · exact .inr (by omega)
        · intro _ h; cases h; done
        · exact .inr (by omega)
    · clear hno2 hL
      refine GCalls.body tab_is Try.func34 rfl Try.results34 Try.ntmps34 (by simp) ?_ ?_
      · first | (intro _ h; cases h; done) | (simp; done) | (simp; omega) | (intro i hi; simp at hi; rcases hi with rfl | rfl <;> omega) | (intro i hi; simp at hi; rcases hi with rfl | rfl | rfl <;> omega)
      focus
        refine GWP.seq ?_
        refine GWP.region ?_
        focus
          refine GOps.w1 rfl rfl rfl rfl (gop_alloc' (id := ?_) ?_ tab_is rfl rfl ?_) ?_
          rotate_left 1
          · rfl
          · decide
        refine GOps.r rfl rfl rfl rfl (grd_assign rfl rfl) ?_
        refine GOps.nil ?_
        refine GWP.seq ?_
        refine GWP.seq ?_
        refine GWP.region ?_
        refine GOps.r rfl rfl rfl rfl (grd_move rfl rfl) ?_
        refine GOps.r rfl rfl rfl rfl (grd_len tab_is rfl rfl rfl rfl rfl) ?_
        refine GOps.r rfl rfl rfl rfl (grd_eql rfl rfl rfl) ?_
        refine GOps.nil ?_
        refine GWP.cond_f rfl ?_ ?_
        · exact decide_eq_false (by omega)
        refine GWP.skip ?_
        refine GWP.seq ?_
        refine GWP.region ?_
        refine GOps.r rfl rfl rfl rfl (grd_move rfl rfl) ?_
        focus
          refine gops_bs rfl rfl rfl rfl (grd_slBS (l := ?_) (h := ?_) (m2 := ?_) (L := ?_) (M := ?_) tab_is rfl rfl rfl rfl ?_ ?_ ?_ ?_ ?_ ?_ ?_) ?_
          rotate_left 5
          focus
            refine BS.ext (by assumption) ?_
            refine HExt.push ?_
            · exact HExt.refl _ _
          · refine gbound_const ?_; exact rfl
          · exact rfl
          · exact Nat.le_of_ble_eq_true rfl
          · omega
          · simp; rfl
          · refine Eq.trans (List.take_of_length_le ?_) ?_; rotate_left 1; rfl; (simp; done)
        intro ph1 ch1 h1
        have h1n := BS.len h1
        focus
          refine GOps.w rfl rfl rfl rfl (gop_call rfl Try.call17 rfl ?_ (g_vopen _ _ _ _ ?_ ?_ ?_)) ?_
          · intro _ h; cases h; done
          rotate_left 1
          · assumption
          · omega
        rintro _ Hxh7 ⟨⟨gh2, ph3, ch4, rfl, lh5, rh6⟩, xh7⟩
        simp at lh5
        have xh7l := HExt.len xh7; try simp at xh7l
        refine GOps.r rfl rfl rfl rfl (grd_assign rfl rfl) ?_
        refine GOps.nil ?_
        refine GWP.seq ?_
        refine GWP.region ?_
        refine GOps.r rfl rfl rfl rfl (grd_move rfl rfl) ?_
        focus
          refine GOps.r rfl rfl rfl rfl (grd_indexBS (q := ?_) (L := ?_) tab_is rfl rfl rfl rfl rfl ?_ ?_ ?_) ?_
          rotate_left 2
          focus
            refine BS.ext (by assumption) ?_
            refine HExt.tr ?_ (by assumption) ?_
            refine HExt.push ?_
            · exact HExt.refl _ _
            · intro _ h; cases h; done
          · rfl
          · exact Nat.le_of_ble_eq_true rfl
        focus
          refine GOps.re rfl rfl rfl rfl (grd_loadBSK (n := ?_) (c := ?_) (L := ?_) (u := ?_) tab_is rfl rfl rfl rfl ?_ ?_ ?_) ?_
          rotate_left 4
          focus
            refine BS.ext (by assumption) ?_
            refine HExt.tr ?_ (by assumption) ?_
            refine HExt.push ?_
            · exact HExt.refl _ _
            · intro _ h; cases h; done
          · exact Nat.le_of_ble_eq_true rfl
          · simp only [List.getD_cons_zero]; rfl
        focus
          refine GOps.r rfl rfl rfl rfl (grd_build (cs := ?_) tab_is rfl rfl rfl ?_ rfl ?_) ?_
          rotate_left 1
          · decide
          · simp [gfill, gsets, Value.cells]; rfl
        focus
          refine GOps.w1 rfl rfl rfl rfl (gop_alloc' (id := ?_) ?_ tab_is rfl rfl ?_) ?_
          rotate_left 1
          · rfl
          · decide
        focus
          refine GOps.s rfl rfl rfl (gop_storeC (b := ?_) (cs := ?_) tab_is rfl rfl ?_ rfl rfl ?_ ?_ ?_ ?_ ?_ ?_) ?_
          rotate_left 2
          · rfl
          · rfl
          · exact Hp.at_push_eq
          · rfl
          · decide
          · exact .inr (by simp; omega)
          · simp [splice, Value.cells]; rfl
        refine GOps.nil ?_
        refine GWP.seq ?_
        refine GWP.seq ?_
        refine GWP.region ?_
        refine GOps.r rfl rfl rfl rfl (grd_fieldAddr tab_is rfl rfl rfl rfl rfl) ?_
        focus
          refine GOps.r rfl rfl rfl rfl (grd_load1 (b := ?_) (v := ?_) tab_is rfl rfl rfl rfl ?_ ?_) ?_
          rotate_left 2
          refine Hp.at_put_eq ?_
          · simp; done
          · rfl
        refine GOps.nil ?_
        refine GWP.block ?_
        refine GWP.seq ?_
        refine GWP.region ?_
        refine GOps.r rfl rfl rfl rfl (grd_eql rfl rfl rfl) ?_
        refine GOps.r rfl rfl rfl rfl (grd_assign rfl rfl) ?_
        refine GOps.nil ?_
        refine GWP.cond_f rfl ?_ ?_
        · exact decide_eq_false (by omega)
        refine GWP.seq ?_
        refine GWP.region ?_
        refine GOps.r rfl rfl rfl rfl (grd_eql rfl rfl rfl) ?_
        refine GOps.r rfl rfl rfl rfl (grd_assign rfl rfl) ?_
        refine GOps.nil ?_
        refine GWP.cond_t rfl ?_ ?_
        · exact decide_eq_true (by omega)
        refine GWP.seq ?_
        refine GWP.region ?_
        refine GOps.r rfl rfl rfl rfl (grd_move rfl rfl) ?_
        focus
          refine gops_bs rfl rfl rfl rfl (grd_slBS (l := ?_) (h := ?_) (m2 := ?_) (L := ?_) (M := ?_) tab_is rfl rfl rfl rfl ?_ ?_ ?_ ?_ ?_ ?_ ?_) ?_
          rotate_left 5
          focus
            refine BS.ext (by assumption) ?_
            refine HExt.put ?_ ?_
            refine HExt.push ?_
            refine HExt.tr ?_ (by assumption) ?_
            refine HExt.push ?_
            · exact HExt.refl _ _
            · intro _ h; cases h; done
            · exact .inr (by omega)
          · refine gbound_const ?_; exact rfl
          · exact rfl
          · exact Nat.le_of_ble_eq_true rfl
          · omega
          · simp; rfl
          · refine Eq.trans (List.take_of_length_le ?_) ?_; rotate_left 1; rfl; (simp; done)
        intro ph8 ch8 h8
        have h8n := BS.len h8
        refine GOps.w1 rfl rfl rfl rfl (gop_call rfl Try.call50 rfl ?_ (hN _ _ _ _ ?_ ?_)) ?_
        · intro _ h; cases h; done
        · assumption
        · omega
        refine GOps.r rfl rfl rfl rfl (grd_move rfl rfl) ?_
        focus
          refine GOps.r rfl rfl rfl rfl (grd_extract (v := ?_) rfl rfl ?_) ?_
          rotate_left 1
          · simp only [List.getElem?_toArray, List.getElem?_cons_zero, List.getElem?_cons_succ]; rfl
        focus
          refine GOps.r rfl rfl rfl rfl (grd_extract (v := ?_) rfl rfl ?_) ?_
          rotate_left 1
          · simp only [List.getElem?_toArray, List.getElem?_cons_zero, List.getElem?_cons_succ]; rfl
        focus
          refine GOps.r rfl rfl rfl rfl (grd_extract (v := ?_) rfl rfl ?_) ?_
          rotate_left 1
          · simp only [List.getElem?_toArray, List.getElem?_cons_zero, List.getElem?_cons_succ]; rfl
        refine GOps.r rfl rfl rfl rfl (grd_assign rfl rfl) ?_
        refine GOps.r rfl rfl rfl rfl (grd_assign rfl rfl) ?_
        refine GOps.r rfl rfl rfl rfl (grd_assign rfl rfl) ?_
        refine GOps.nil ?_
        refine GWP.seq ?_
        refine GWP.seq ?_
        refine GWP.region ?_
        refine GOps.r rfl rfl rfl rfl (grd_move rfl rfl) ?_
        refine GOps.r rfl rfl rfl rfl (grd_neq rfl rfl rfl) ?_
        refine GOps.r rfl rfl rfl rfl (grd_move rfl rfl) ?_
        refine GOps.take rfl rfl ?_ ?_
        · simp; done
        refine GOps.r rfl rfl rfl rfl (grd_move rfl rfl) ?_
        refine GOps.take rfl rfl ?_ ?_
        · simp; done
        refine GOps.r rfl rfl rfl rfl (grd_geq rfl rfl rfl) ?_
        refine GOps.r rfl rfl rfl rfl (grd_pick_f rfl rfl ?_ rfl) ?_
        · exact decide_eq_false (by omega)
        refine GOps.nil ?_
        refine GWP.cond_t rfl ?_ ?_
        · exact decide_eq_true (by omega)
        refine GWP.seq ?_
        refine GWP.region ?_
        focus
          refine GOps.r rfl rfl rfl rfl (grd_build (cs := ?_) tab_is rfl rfl rfl ?_ rfl ?_) ?_
          rotate_left 1
          · decide
          · simp [gfill, gsets, Value.cells]; rfl
        focus
          refine GOps.s rfl rfl rfl (gop_storeC (b := ?_) (cs := ?_) tab_is rfl rfl ?_ rfl rfl ?_ ?_ ?_ ?_ ?_ ?_) ?_
          rotate_left 2
          · rfl
          · rfl
          refine (Hp.at_put_ne ?_).trans ?_
          · omega
          refine (Hp.at_push_lt ?_).trans ?_
          · omega
          refine (HExt.eq (by assumption) _ ?_ ?_).trans ?_
          · simp; done
          · intro h; cases h; done
          · exact Hp.at_push_eq
          · rfl
          · decide
          · exact .inr (by simp)
          · simp [splice, Value.cells]; rfl
        refine GOps.r rfl rfl rfl rfl (grd_assign rfl rfl) ?_
        refine GOps.nil ?_
        refine GWP.ret ?_
        focus
          refine ⟨_, (.two (gres_cellNK (b := ?_) (cs := ?_) rfl rfl rfl ?_ ?_ ?_) (.one rfl)), ?_⟩
          rotate_left 2
          refine Hp.at_put_eq ?_
          · simp; omega
          · decide
          · simp [Value.cells]; rfl
        refine ⟨?_, ?_⟩
        · rfl
        refine HExt.put ?_ ?_
        refine HExt.put ?_ ?_
        refine HExt.push ?_
        refine HExt.tr ?_ (by assumption) ?_
        refine HExt.push ?_
        · exact HExt.refl _ _
        · intro _ h; cases h; done
        · exact .inr (by omega)
        · exact .inr (by omega)
  · clear hno hq2
    refine GCalls.body tab_is Try.func34 rfl Try.results34 Try.ntmps34 (by simp) ?_ ?_
    · first | (intro _ h; cases h; done) | (simp; done) | (simp; omega) | (intro i hi; simp at hi; rcases hi with rfl | rfl <;> omega) | (intro i hi; simp at hi; rcases hi with rfl | rfl | rfl <;> omega)
    focus
      refine GWP.seq ?_
      refine GWP.region ?_
      focus
        refine GOps.w1 rfl rfl rfl rfl (gop_alloc' (id := ?_) ?_ tab_is rfl rfl ?_) ?_
        rotate_left 1
        · rfl
        · decide
      refine GOps.r rfl rfl rfl rfl (grd_assign rfl rfl) ?_
      refine GOps.nil ?_
      refine GWP.seq ?_
      refine GWP.seq ?_
      refine GWP.region ?_
      refine GOps.r rfl rfl rfl rfl (grd_move rfl rfl) ?_
      refine GOps.r rfl rfl rfl rfl (grd_len tab_is rfl rfl rfl rfl rfl) ?_
      refine GOps.r rfl rfl rfl rfl (grd_eql rfl rfl rfl) ?_
      refine GOps.nil ?_
      refine GWP.cond_f rfl ?_ ?_
      · exact decide_eq_false (by omega)
      refine GWP.skip ?_
      refine GWP.seq ?_
      refine GWP.region ?_
      refine GOps.r rfl rfl rfl rfl (grd_move rfl rfl) ?_
      focus
        refine gops_bs rfl rfl rfl rfl (grd_slBS (l := ?_) (h := ?_) (m2 := ?_) (L := ?_) (M := ?_) tab_is rfl rfl rfl rfl ?_ ?_ ?_ ?_ ?_ ?_ ?_) ?_
        rotate_left 5
        focus
          refine BS.ext (by assumption) ?_
          refine HExt.push ?_
          · exact HExt.refl _ _
        · refine gbound_const ?_; exact rfl
        · exact rfl
        · exact Nat.le_of_ble_eq_true rfl
        · omega
        · simp; rfl
        · refine Eq.trans (List.take_of_length_le ?_) ?_; rotate_left 1; rfl; (simp; done)
      intro pi1 ci1 i1
      have i1n := BS.len i1
      focus
        refine GOps.w rfl rfl rfl rfl (gop_call rfl Try.call17 rfl ?_ (g_vopen _ _ _ _ ?_ ?_ ?_)) ?_
        · intro _ h; cases h; done
        rotate_left 1
        · assumption
        · omega
      rintro _ Hxi7 ⟨⟨gi2, pi3, ci4, rfl, li5, ri6⟩, xi7⟩
      simp at li5
      have xi7l := HExt.len xi7; try simp at xi7l
      refine GOps.r rfl rfl rfl rfl (grd_assign rfl rfl) ?_
      refine GOps.nil ?_
      refine GWP.seq ?_
      refine GWP.region ?_
      refine GOps.r rfl rfl rfl rfl (grd_move rfl rfl) ?_
      focus
        refine GOps.r rfl rfl rfl rfl (grd_indexBS (q := ?_) (L := ?_) tab_is rfl rfl rfl rfl rfl ?_ ?_ ?_) ?_
        rotate_left 2
        focus
          refine BS.ext (by assumption) ?_
          refine HExt.tr ?_ (by assumption) ?_
          refine HExt.push ?_
          · exact HExt.refl _ _
          · intro _ h; cases h; done
        · rfl
        · exact Nat.le_of_ble_eq_true rfl
      focus
        refine GOps.re rfl rfl rfl rfl (grd_loadBSK (n := ?_) (c := ?_) (L := ?_) (u := ?_) tab_is rfl rfl rfl rfl ?_ ?_ ?_) ?_
        rotate_left 4
        focus
          refine BS.ext (by assumption) ?_
          refine HExt.tr ?_ (by assumption) ?_
          refine HExt.push ?_
          · exact HExt.refl _ _
          · intro _ h; cases h; done
        · exact Nat.le_of_ble_eq_true rfl
        · simp only [List.getD_cons_zero]; rfl
      focus
        refine GOps.r rfl rfl rfl rfl (grd_build (cs := ?_) tab_is rfl rfl rfl ?_ rfl ?_) ?_
        rotate_left 1
        · decide
        · simp [gfill, gsets, Value.cells]; rfl
      focus
        refine GOps.w1 rfl rfl rfl rfl (gop_alloc' (id := ?_) ?_ tab_is rfl rfl ?_) ?_
        rotate_left 1
        · rfl
        · decide
      focus
        refine GOps.s rfl rfl rfl (gop_storeC (b := ?_) (cs := ?_) tab_is rfl rfl ?_ rfl rfl ?_ ?_ ?_ ?_ ?_ ?_) ?_
        rotate_left 2
        · rfl
        · rfl
        · exact Hp.at_push_eq
        · rfl
        · decide
        · exact .inr (by simp; omega)
        · simp [splice, Value.cells]; rfl
      refine GOps.nil ?_
      refine GWP.seq ?_
      refine GWP.seq ?_
      refine GWP.region ?_
      refine GOps.r rfl rfl rfl rfl (grd_fieldAddr tab_is rfl rfl rfl rfl rfl) ?_
      focus
        refine GOps.r rfl rfl rfl rfl (grd_load1 (b := ?_) (v := ?_) tab_is rfl rfl rfl rfl ?_ ?_) ?_
        rotate_left 2
        refine Hp.at_put_eq ?_
        · simp; done
        · rfl
      refine GOps.nil ?_
      refine GWP.block ?_
      refine GWP.seq ?_
      refine GWP.region ?_
      refine GOps.r rfl rfl rfl rfl (grd_eql rfl rfl rfl) ?_
      refine GOps.r rfl rfl rfl rfl (grd_assign rfl rfl) ?_
      refine GOps.nil ?_
      refine GWP.cond_f rfl ?_ ?_
      · exact decide_eq_false (by omega)
      refine GWP.seq ?_
      refine GWP.region ?_
      refine GOps.r rfl rfl rfl rfl (grd_eql rfl rfl rfl) ?_
      refine GOps.r rfl rfl rfl rfl (grd_assign rfl rfl) ?_
      refine GOps.nil ?_
      refine GWP.cond_t rfl ?_ ?_
      · exact decide_eq_true (by omega)
      refine GWP.seq ?_
      refine GWP.region ?_
      refine GOps.r rfl rfl rfl rfl (grd_move rfl rfl) ?_
      focus
        refine gops_bs rfl rfl rfl rfl (grd_slBS (l := ?_) (h := ?_) (m2 := ?_) (L := ?_) (M := ?_) tab_is rfl rfl rfl rfl ?_ ?_ ?_ ?_ ?_ ?_ ?_) ?_
        rotate_left 5
        focus
          refine BS.ext (by assumption) ?_
          refine HExt.put ?_ ?_
          refine HExt.push ?_
          refine HExt.tr ?_ (by assumption) ?_
          refine HExt.push ?_
          · exact HExt.refl _ _
          · intro _ h; cases h; done
          · exact .inr (by omega)
        · refine gbound_const ?_; exact rfl
        · exact rfl
        · exact Nat.le_of_ble_eq_true rfl
        · omega
        · simp; rfl
        · refine Eq.trans (List.take_of_length_le ?_) ?_; rotate_left 1; rfl; (simp; done)
      intro pi8 ci8 i8
      have i8n := BS.len i8
      refine GOps.w1 rfl rfl rfl rfl (gop_call rfl Try.call50 rfl ?_ (hN _ _ _ _ ?_ ?_)) ?_
      · intro _ h; cases h; done
      · assumption
      · omega
      refine GOps.r rfl rfl rfl rfl (grd_move rfl rfl) ?_
      focus
        refine GOps.r rfl rfl rfl rfl (grd_extract (v := ?_) rfl rfl ?_) ?_
        rotate_left 1
        · simp only [List.getElem?_toArray, List.getElem?_cons_zero, List.getElem?_cons_succ]; rfl
      focus
        refine GOps.r rfl rfl rfl rfl (grd_extract (v := ?_) rfl rfl ?_) ?_
        rotate_left 1
        · simp only [List.getElem?_toArray, List.getElem?_cons_zero, List.getElem?_cons_succ]; rfl
      focus
        refine GOps.r rfl rfl rfl rfl (grd_extract (v := ?_) rfl rfl ?_) ?_
        rotate_left 1
        · simp only [List.getElem?_toArray, List.getElem?_cons_zero, List.getElem?_cons_succ]; rfl
      refine GOps.r rfl rfl rfl rfl (grd_assign rfl rfl) ?_
      refine GOps.r rfl rfl rfl rfl (grd_assign rfl rfl) ?_
      refine GOps.r rfl rfl rfl rfl (grd_assign rfl rfl) ?_
      refine GOps.nil ?_
      refine GWP.seq ?_
      refine GWP.seq ?_
      refine GWP.region ?_
      refine GOps.r rfl rfl rfl rfl (grd_move rfl rfl) ?_
      refine GOps.r rfl rfl rfl rfl (grd_neq rfl rfl rfl) ?_
      refine GOps.r rfl rfl rfl rfl (grd_move rfl rfl) ?_
      refine GOps.no rfl ?_ rfl rfl ?_
      · simp; omega
      refine GOps.no rfl ?_ rfl rfl ?_
      · simp; omega
      refine GOps.r rfl rfl rfl rfl (grd_pick_t rfl rfl ?_ rfl) ?_
      · exact decide_eq_true (by omega)
      refine GOps.nil ?_
      refine GWP.cond_t rfl ?_ ?_
      · with_reducible rfl
      refine GWP.seq ?_
      refine GWP.region ?_
      focus
        refine GOps.r rfl rfl rfl rfl (grd_build (cs := ?_) tab_is rfl rfl rfl ?_ rfl ?_) ?_
        rotate_left 1
        · decide
        · simp [gfill, gsets, Value.cells]; rfl
      focus
        refine GOps.s rfl rfl rfl (gop_storeC (b := ?_) (cs := ?_) tab_is rfl rfl ?_ rfl rfl ?_ ?_ ?_ ?_ ?_ ?_) ?_
        rotate_left 2
        · rfl
        · rfl
        refine (Hp.at_put_ne ?_).trans ?_
        · omega
        refine (Hp.at_push_lt ?_).trans ?_
        · omega
        refine (HExt.eq (by assumption) _ ?_ ?_).trans ?_
        · simp; done
        · intro h; cases h; done
        · exact Hp.at_push_eq
        · rfl
        · decide
        · exact .inr (by simp)
        · simp [splice, Value.cells]; rfl
      refine GOps.r rfl rfl rfl rfl (grd_assign rfl rfl) ?_
      refine GOps.nil ?_
      refine GWP.ret ?_
      focus
        refine ⟨_, (.two (gres_cellNK (b := ?_) (cs := ?_) rfl rfl rfl ?_ ?_ ?_) (.one rfl)), ?_⟩
        rotate_left 2
        refine Hp.at_put_eq ?_
        · simp; omega
        · decide
        · simp [Value.cells]; rfl
      refine ⟨?_, ?_⟩
      · rfl
      refine HExt.put ?_ ?_
      refine HExt.put ?_ ?_
      refine HExt.push ?_
      refine HExt.tr ?_ (by assumption) ?_
      refine HExt.push ?_
      · exact HExt.refl _ _
      · intro _ h; cases h; done
      · exact .inr (by omega)
      · exact .inr (by omega)
set_option maxHeartbeats 4000000 in
set_option maxRecDepth 100000 in
set_option linter.unusedSimpArgs false in
theorem g_parse2a (H : Hp) (j off n c : Nat) (M : List UInt8) (hbs : BS H (.slice (some ⟨j, off, none⟩) n c) (2 :: M)) (hn : n ≤ 35184372088832) (q1 q2 : Nat) (hq : next M = (q1, q2, 0)) (hq2 : q2 ≤ M.length) (h1 : q1 < 256) (hd : dataOk q1 (n - (1 + q2))) : GCalls Try.prog 34 [.slice (some ⟨j, off, none⟩) n c] [] H fun v H' => v = .tuple #[recV 2 0 0 q1 ((q1 + (n - (1 + q2)) / 32 : Nat) : Int) (.slice (some ⟨j, off + (1 + q2), none⟩) (n - (1 + q2)) (capS c (1 + q2))) 0 0 0, .int .i64 0] ∧ HExt [] H H' := by
  have hl := hbs.len
  simp only [List.length_cons] at hl
  have hN : ∀ H p n c, BS H (.slice p n c) M → n ≤ 9223372036854775000 → GCalls Try.prog 50 [.slice p n c] [] H fun v H' => v = .tuple #[.int .u64 (q1 : Int), .int .i64 (q2 : Int), .int .i64 (0 : Int)] ∧ H' = H := fun H p n c h1 h2 => by
    have := g_next H p n c M h1 h2
    rw [hq] at this
    exact this
  clear hq
  cases hbs with
  | some hb hs hl2 hof hu =>
    rename_i t2 rw2 cs2
    have hbs : BS H (.slice (some ⟨j, off, none⟩) n c) (2 :: M) := .some hb hs hl2 hof hu
    have hlt := Hp.at_lt hb
    have hO : ∀ H' o c', o = off + 1 → HExt [] H H' → GCalls Try.prog 17 [.slice (some ⟨j, o, none⟩) (n - 1) c'] [] H' fun v H'' => (∃ g, v = .pointer (some ⟨g, 0, none⟩)) ∧ HExt [] H' H'' := fun H' o c' ho hx => (g_vopen H' _ (n - 1) c' M (bs_subE (l := 1) (hbs.ext hx) ho (by omega) (by simp only [List.drop_succ_cons, List.drop_zero]; exact List.take_of_length_le (by omega))) (by omega)).mono fun v H2 ⟨⟨g, _, _, e, _⟩, x⟩ => ⟨⟨g, e⟩, x⟩
    have hN2 : ∀ H' o c', o = off + 1 → HExt [] H H' → GCalls Try.prog 50 [.slice (some ⟨j, o, none⟩) (n - 1) c'] [] H' fun v H'' => v = .tuple #[.int .u64 (q1 : Int), .int .i64 (q2 : Int), .int .i64 (0 : Int)] ∧ H'' = H' := fun H' o c' ho hx => hN H' _ _ _ (bs_subE (l := 1) (hbs.ext hx) ho (by omega) (by simp only [List.drop_succ_cons, List.drop_zero]; exact List.take_of_length_le (by omega))) (by omega)
    have hcell : cs2[off + 0]? = some (.int .u8 2) := by
      have e : ((cs2.drop off).take n)[0]? = some (.int .u8 2) := by rw [hs]; rfl
      rw [List.getElem?_take, if_pos (by omega), List.getElem?_drop] at e
      exact e
    clear hN
    refine GCalls.body tab_is Try.func34 rfl Try.results34 Try.ntmps34 (by simp) ?_ ?_
    · first | (intro _ h; cases h; done) | (simp; done) | (simp; omega) | (intro i hi; simp at hi; rcases hi with rfl | rfl <;> omega) | (intro i hi; simp at hi; rcases hi with rfl | rfl | rfl <;> omega)
    focus
      refine GWP.seq ?_
      refine GWP.region ?_
      focus
        refine GOps.w1 rfl rfl rfl rfl (gop_alloc' (id := ?_) ?_ tab_is rfl rfl ?_) ?_
        rotate_left 1
        · rfl
        · decide
      refine GOps.r rfl rfl rfl rfl (grd_assign rfl rfl) ?_
      refine GOps.nil ?_
      refine GWP.seq ?_
      refine GWP.seq ?_
      refine GWP.region ?_
      refine GOps.r rfl rfl rfl rfl (grd_move rfl rfl) ?_
      refine GOps.r rfl rfl rfl rfl (grd_len tab_is rfl rfl rfl rfl rfl) ?_
      refine GOps.r rfl rfl rfl rfl (grd_eql rfl rfl rfl) ?_
      refine GOps.nil ?_
      refine GWP.cond_f rfl ?_ ?_
      · exact decide_eq_false (by omega)
      refine GWP.skip ?_
      refine GWP.seq ?_
      refine GWP.region ?_
      refine GOps.r rfl rfl rfl rfl (grd_move rfl rfl) ?_
      focus
        refine GOps.r rfl rfl rfl rfl (grd_slL (l := ?_) (h := ?_) (o2 := ?_) (m2 := ?_) (b := ?_) tab_is rfl rfl rfl rfl ?_ ?_ ?_ ?_ ?_ ?_ ?_ ?_) ?_
        rotate_left 5
        refine (Hp.at_push_lt ?_).trans ?_
        · omega
        · assumption
        · rfl
        · refine gbound_const ?_; exact rfl
        · exact rfl
        · simp; omega
        · omega
        · simp; rfl
        · simp; rfl
      refine GOps.w rfl rfl rfl rfl (gop_call rfl Try.call17 rfl ?_ (hO _ _ _ ?_ ?_)) ?_
      · intro _ h; cases h; done
      · rfl
      refine HExt.push ?_
      · exact HExt.refl _ _
      rintro _ Hxf2 ⟨⟨gf1, rfl⟩, xf2⟩
      have xf2l := HExt.len xf2; try simp at xf2l
      refine GOps.r rfl rfl rfl rfl (grd_assign rfl rfl) ?_
      refine GOps.nil ?_
      refine GWP.seq ?_
      refine GWP.region ?_
      refine GOps.r rfl rfl rfl rfl (grd_move rfl rfl) ?_
      refine GOps.r rfl rfl rfl rfl (grd_indexAddr1 tab_is rfl rfl rfl rfl rfl ?_) ?_
      · simp; omega
      focus
        refine GOps.r rfl rfl rfl rfl (grd_load1 (b := ?_) (v := ?_) tab_is rfl rfl rfl rfl ?_ ?_) ?_
        rotate_left 2
        refine (HExt.eq (by assumption) _ ?_ ?_).trans ?_
        · simp; omega
        · intro h; cases h; done
        refine (Hp.at_push_lt ?_).trans ?_
        · omega
        · assumption
        · assumption
      focus
        refine GOps.r rfl rfl rfl rfl (grd_build (cs := ?_) tab_is rfl rfl rfl ?_ rfl ?_) ?_
        rotate_left 1
        · decide
        · simp [gfill, gsets, Value.cells]; rfl
      focus
        refine GOps.w1 rfl rfl rfl rfl (gop_alloc' (id := ?_) ?_ tab_is rfl rfl ?_) ?_
        rotate_left 1
        · rfl
        · decide
      focus
        refine GOps.s rfl rfl rfl (gop_storeC (b := ?_) (cs := ?_) tab_is rfl rfl ?_ rfl rfl ?_ ?_ ?_ ?_ ?_ ?_) ?_
        rotate_left 2
        · rfl
        · rfl
        · exact Hp.at_push_eq
        · rfl
        · decide
        · exact .inr (by simp; omega)
        · simp [splice, Value.cells]; rfl
      refine GOps.nil ?_
      refine GWP.seq ?_
      refine GWP.seq ?_
      refine GWP.region ?_
      refine GOps.r rfl rfl rfl rfl (grd_fieldAddr tab_is rfl rfl rfl rfl rfl) ?_
      focus
        refine GOps.r rfl rfl rfl rfl (grd_load1 (b := ?_) (v := ?_) tab_is rfl rfl rfl rfl ?_ ?_) ?_
        rotate_left 2
        refine Hp.at_put_eq ?_
        · simp; done
        · rfl
      refine GOps.nil ?_
      refine GWP.block ?_
      refine GWP.seq ?_
      refine GWP.region ?_
      refine GOps.r rfl rfl rfl rfl (grd_eql rfl rfl rfl) ?_
      refine GOps.r rfl rfl rfl rfl (grd_assign rfl rfl) ?_
      refine GOps.nil ?_
      refine GWP.cond_f rfl ?_ ?_
      · exact decide_eq_false (by omega)
      refine GWP.seq ?_
      refine GWP.region ?_
      refine GOps.r rfl rfl rfl rfl (grd_eql rfl rfl rfl) ?_
      refine GOps.r rfl rfl rfl rfl (grd_assign rfl rfl) ?_
      refine GOps.nil ?_
      refine GWP.cond_t rfl ?_ ?_
      · exact decide_eq_true (by omega)
      refine GWP.seq ?_
      refine GWP.region ?_
      refine GOps.r rfl rfl rfl rfl (grd_move rfl rfl) ?_
      focus
        refine GOps.r rfl rfl rfl rfl (grd_slL (l := ?_) (h := ?_) (o2 := ?_) (m2 := ?_) (b := ?_) tab_is rfl rfl rfl rfl ?_ ?_ ?_ ?_ ?_ ?_ ?_ ?_) ?_
        rotate_left 5
        refine (Hp.at_put_ne ?_).trans ?_
        · omega
        refine (Hp.at_push_lt ?_).trans ?_
        · omega
        refine (HExt.eq (by assumption) _ ?_ ?_).trans ?_
        · simp; omega
        · intro h; cases h; done
        refine (Hp.at_push_lt ?_).trans ?_
        · omega
        · assumption
        · rfl
        · refine gbound_const ?_; exact rfl
        · exact rfl
        · simp; omega
        · omega
        · simp; rfl
        · simp; rfl
      refine GOps.w1 rfl rfl rfl rfl (gop_call rfl Try.call50 rfl ?_ (hN2 _ _ _ ?_ ?_)) ?_
      · intro _ h; cases h; done
      · rfl
      refine HExt.put ?_ ?_
      refine HExt.push ?_
      refine HExt.tr ?_ (by assumption) ?_
      refine HExt.push ?_
      · exact HExt.refl _ _
      · intro _ h; cases h; done
      · exact .inr (by omega)
      refine GOps.r rfl rfl rfl rfl (grd_move rfl rfl) ?_
      focus
        refine GOps.r rfl rfl rfl rfl (grd_extract (v := ?_) rfl rfl ?_) ?_
        rotate_left 1
        · simp only [List.getElem?_toArray, List.getElem?_cons_zero, List.getElem?_cons_succ]; rfl
      focus
        refine GOps.r rfl rfl rfl rfl (grd_extract (v := ?_) rfl rfl ?_) ?_
        rotate_left 1
        · simp only [List.getElem?_toArray, List.getElem?_cons_zero, List.getElem?_cons_succ]; rfl
      focus
        refine GOps.r rfl rfl rfl rfl (grd_extract (v := ?_) rfl rfl ?_) ?_
        rotate_left 1
        · simp only [List.getElem?_toArray, List.getElem?_cons_zero, List.getElem?_cons_succ]; rfl
      refine GOps.r rfl rfl rfl rfl (grd_assign rfl rfl) ?_
      refine GOps.r rfl rfl rfl rfl (grd_assign rfl rfl) ?_
      refine GOps.r rfl rfl rfl rfl (grd_assign rfl rfl) ?_
      refine GOps.nil ?_
      refine GWP.seq ?_
      refine GWP.seq ?_
      refine GWP.region ?_
      refine GOps.r rfl rfl rfl rfl (grd_move rfl rfl) ?_
      refine GOps.r rfl rfl rfl rfl (grd_neq rfl rfl rfl) ?_
      refine GOps.r rfl rfl rfl rfl (grd_move rfl rfl) ?_
      refine GOps.take rfl rfl ?_ ?_
      · simp; done
      refine GOps.r rfl rfl rfl rfl (grd_move rfl rfl) ?_
      refine GOps.take rfl rfl ?_ ?_
      · simp; done
      refine GOps.r rfl rfl rfl rfl (grd_geq rfl rfl rfl) ?_
      refine GOps.r rfl rfl rfl rfl (grd_pick_f rfl rfl ?_ rfl) ?_
      · exact decide_eq_false (by omega)
      refine GOps.nil ?_
      refine GWP.cond_f rfl ?_ ?_
      · exact decide_eq_false (by omega)
      refine GWP.skip ?_
      refine GWP.seq ?_
      refine GWP.region ?_
      refine GOps.r rfl rfl rfl rfl (grd_move rfl rfl) ?_
      refine GOps.r rfl rfl rfl rfl (grd_conv_in tab_is rfl rfl rfl rfl rfl ?_) ?_
      · refine wrap_i64_in ?_; omega
      refine GOps.r rfl rfl rfl rfl (grd_move rfl rfl) ?_
      refine GOps.r rfl rfl rfl rfl (grd_move rfl rfl) ?_
      refine GOps.r rfl rfl rfl rfl (grd_add64 rfl rfl rfl ?_) ?_
      · omega
      focus
        refine GOps.r rfl rfl rfl rfl (grd_slL (l := ?_) (h := ?_) (o2 := ?_) (m2 := ?_) (b := ?_) tab_is rfl rfl rfl rfl ?_ ?_ ?_ ?_ ?_ ?_ ?_ ?_) ?_
        rotate_left 5
        refine (Hp.at_put_ne ?_).trans ?_
        · omega
        refine (Hp.at_push_lt ?_).trans ?_
        · omega
        refine (HExt.eq (by assumption) _ ?_ ?_).trans ?_
        · simp; omega
        · intro h; cases h; done
        refine (Hp.at_push_lt ?_).trans ?_
        · omega
        · assumption
        · rfl
        · refine gbound_tmp rfl ?_; exact rfl
        · exact rfl
        · simp; omega
        · omega
        · simp; rfl
        · simp; rfl
      refine GOps.w rfl rfl rfl rfl (gop_call rfl Try.call55 rfl ?_ (g_rdata _ _ ?_ _ _ _ ?_ ?_)) ?_
      · intro _ h; cases h; done
      · omega
      · omega
      · assumption
      rintro _ Hxf3 ⟨rfl, xf3⟩
      have xf3l := HExt.len xf3; try simp at xf3l
      focus
        refine GOps.r rfl rfl rfl rfl (grd_extract (v := ?_) rfl rfl ?_) ?_
        rotate_left 1
        · simp only [List.getElem?_toArray, List.getElem?_cons_zero, List.getElem?_cons_succ]; rfl
      focus
        refine GOps.r rfl rfl rfl rfl (grd_extract (v := ?_) rfl rfl ?_) ?_
        rotate_left 1
        · simp only [List.getElem?_toArray, List.getElem?_cons_zero, List.getElem?_cons_succ]; rfl
      focus
        refine GOps.s rfl rfl rfl (gop_storeC (b := ?_) (cs := ?_) tab_is rfl rfl ?_ rfl rfl ?_ ?_ ?_ ?_ ?_ ?_) ?_
        rotate_left 2
        · rfl
        · rfl
        refine (HExt.eq (by assumption) _ ?_ ?_).trans ?_
        · simp; omega
        · intro h; cases h; done
        refine (Hp.at_put_ne ?_).trans ?_
        · omega
        refine (Hp.at_push_lt ?_).trans ?_
        · omega
        refine (HExt.eq (by assumption) _ ?_ ?_).trans ?_
        · simp; done
        · intro h; cases h; done
        · exact Hp.at_push_eq
        · rfl
        · exact Nat.le_of_ble_eq_true rfl
        · exact .inr (by simp)
        · simp [splice, Value.cells]; rfl
      refine GOps.r rfl rfl rfl rfl (grd_assign rfl rfl) ?_
      refine GOps.nil ?_
      refine GWP.ret ?_
      focus
        refine ⟨_, (.two (gres_cellNK (b := ?_) (cs := ?_) rfl rfl rfl ?_ ?_ ?_) (.one rfl)), ?_⟩
        rotate_left 2
        refine Hp.at_put_eq ?_
        · omega
        · exact Nat.le_of_ble_eq_true rfl
        · simp [Value.cells]; rfl
      refine ⟨?_, ?_⟩
      · rfl
      refine HExt.put ?_ ?_
      refine HExt.tr ?_ (by assumption) ?_
      refine HExt.put ?_ ?_
      refine HExt.push ?_
      refine HExt.tr ?_ (by assumption) ?_
      refine HExt.push ?_
      · exact HExt.refl _ _
      · intro _ h; cases h; done
      · exact .inr (by omega)
      · intro _ h; cases h; done
      · exact .inr (by omega)
end Go.Proofs.Ytjlimdiimdihfaa

/- Records out of bytes: whatever kind, and out of a reader. -/
namespace Go.Proofs.Ytjlimdiimdihfaa
open Go.RowKit

instance (f n : Nat) : Decidable (dataOk f n) := by unfold dataOk; infer_instance
set_option maxHeartbeats 4000000 in
set_option maxRecDepth 100000 in
set_option linter.unusedSimpArgs false in
theorem g_parse (H : Hp) (p : Option Addr) (n c : Nat) (L : List UInt8) (hb : BS H (.slice p n c) L) (hn : n ≤ 35184372088832) : GCalls Try.prog 34 [.slice p n c] [] H fun v H' => ((parO L = none → v = .tuple #[recV 0 0 0 0 0 (.slice none 0 0) 0 0 0, .int .i64 3]) ∧ ∀ r, parO L = some r → ∃ p' n' c', v = .tuple #[r.val (.slice p' n' c'), .int .i64 0] ∧ BS H' (.slice p' n' c') r.blocks) ∧ HExt [] H H' := by
  have hfail : ∀ (v : Value) (H' : Hp), parO L = none → (v = .tuple #[recV 0 0 0 0 0 (.slice none 0 0) 0 0 0, .int .i64 3] ∧ HExt [] H H') → ((parO L = none → v = .tuple #[recV 0 0 0 0 0 (.slice none 0 0) 0 0 0, .int .i64 3]) ∧ ∀ r, parO L = some r → ∃ p' n' c', v = .tuple #[r.val (.slice p' n' c'), .int .i64 0] ∧ BS H' (.slice p' n' c') r.blocks) ∧ HExt [] H H' := fun v H' h1 h2 => ⟨⟨fun _ => h2.1, fun r hr => by rw [h1] at hr; cases hr⟩, h2.2⟩
  have hgood : ∀ (v : Value) (H' : Hp) (r : RecS), parO L = some r → r.blocks = [] → (v = .tuple #[r.val (.slice none 0 0), .int .i64 0] ∧ HExt [] H H') → ((parO L = none → v = .tuple #[recV 0 0 0 0 0 (.slice none 0 0) 0 0 0, .int .i64 3]) ∧ ∀ r, parO L = some r → ∃ p' n' c', v = .tuple #[r.val (.slice p' n' c'), .int .i64 0] ∧ BS H' (.slice p' n' c') r.blocks) ∧ HExt [] H H' := fun v H' r h1 h0 h2 => ⟨⟨fun h => (by rw [h1] at h; cases h), fun q hq => by
    rw [h1] at hq
    injection hq with hq
    subst hq
    exact ⟨none, 0, 0, h2.1, by rw [h0]; exact .none⟩⟩, h2.2⟩
  match L, hb with
  | [], hb => exact (g_parse0 H p n c hb).mono fun v H' h => hfail v H' rfl h
  | k :: M, hb =>
    by_cases k1 : k.toNat = 1
    · obtain rfl : k = 1 := UInt8.toNat_inj.1 k1
      refine (g_parse1 H p n c M hb hn _ _ rfl rfl).mono fun v H' h => ?_
      by_cases hf : ((RdS.number ⟨M, 0⟩ 1099511627776).2.number 1099511627776).2.fin ≠ 0
      · rw [if_pos hf] at h
        exact hfail v H' (by rw [parO, if_pos (show (1 : UInt8).toNat = 1 from rfl)]; exact if_pos hf) h
      · rw [if_neg hf] at h
        exact hgood v H' ⟨1, (RdS.number ⟨M, 0⟩ 1099511627776).1, ((RdS.number ⟨M, 0⟩ 1099511627776).2.number 1099511627776).1, 0, 0, [], 0, 0, 0⟩ (by rw [parO, if_pos (show (1 : UInt8).toNat = 1 from rfl)]; exact if_neg hf) rfl h
    · by_cases k2 : k.toNat = 2
      · obtain rfl : k = 2 := UInt8.toNat_inj.1 k2
        have hsz : (next M).2.2 = 0 → (next M).2.1 ≤ M.length := next_size M
        generalize hq : next M = q at hsz
        obtain ⟨q1, q2, q3⟩ := q
        simp only at hsz
        have hp : parO (2 :: M) = if q3 ≠ 0 ∨ 256 ≤ q1 then none else if dataOk q1 (M.drop q2).length then some ⟨2, 0, 0, q1, ((q1 + (M.drop q2).length / 32 : Nat) : Int), M.drop q2, 0, 0, 0⟩ else none := by
          rw [parO, if_neg (by decide), if_pos (show (2 : UInt8).toNat = 2 from rfl), hq]
          rfl
        by_cases h1 : q3 ≠ 0 ∨ 256 ≤ q1
        · exact (g_parse2no H p n c M hb hn q1 q2 q3 hq hsz (fun e1 e2 => by omega)).mono fun v H' h => hfail v H' (by rw [hp, if_pos h1]) h
        · by_cases h2 : dataOk q1 (M.drop q2).length
          · obtain rfl : q3 = 0 := by omega
            have hs0 := hsz rfl
            have hl := hb.len
            rw [List.length_cons] at hl
            have hL : (M.drop q2).length = n - (1 + q2) := by rw [List.length_drop]; omega
            match p, hb with
            | some ⟨j, off, none⟩, hb =>
              refine (g_parse2a H j off n c M hb hn q1 q2 hq hs0 (by omega) (by rw [← hL]; exact h2)).mono fun v H' ⟨e, x⟩ => ⟨⟨fun h => (by rw [hp, if_neg h1, if_pos h2] at h; cases h), fun r hr => ?_⟩, x⟩
              rw [hp, if_neg h1, if_pos h2] at hr
              injection hr with hr
              subst hr
              refine ⟨_, _, _, by rw [e, ← hL]; rfl, bs_subE (l := 1 + q2) (hb.ext x) rfl (by omega) ?_⟩
              rw [Nat.add_comm 1 q2, List.drop_succ_cons]
              exact List.take_of_length_le (by omega)
          · exact (g_parse2no H p n c M hb hn q1 q2 q3 hq hsz (fun _ _ => h2)).mono fun v H' h => hfail v H' (by rw [hp, if_neg h1, if_neg h2]) h
      · by_cases k3 : k.toNat = 3
        · obtain rfl : k = 3 := UInt8.toNat_inj.1 k3
          refine (g_parse3 H p n c M hb hn _ _ rfl rfl).mono fun v H' h => ?_
          have hp : parO (3 :: M) = if (((RdS.number ⟨M, 0⟩ 255).2.number 256).2.e = 0 ∧ ((RdS.number ⟨M, 0⟩ 255).2.number 256).1 ≤ (RdS.number ⟨M, 0⟩ 255).1) ∨ ((RdS.number ⟨M, 0⟩ 255).2.number 256).2.fin ≠ 0 then none else some ⟨3, 0, 0, (RdS.number ⟨M, 0⟩ 255).1, ((RdS.number ⟨M, 0⟩ 255).2.number 256).1, [], 0, 0, 0⟩ := by
            rw [parO, if_neg (by decide), if_neg (by decide), if_pos (show (3 : UInt8).toNat = 3 from rfl)]
          generalize RdS.number ⟨M, 0⟩ 255 = r1 at h hp
          generalize r1.2.number 256 = r2 at h hp
          by_cases hf : (r2.2.e = 0 ∧ r2.1 ≤ r1.1) ∨ r2.2.fin ≠ 0
          · rw [if_pos hf] at h
            exact hfail v H' (by rw [hp, if_pos hf]) h
          · rw [if_neg hf] at h
            exact hgood v H' ⟨3, 0, 0, r1.1, r2.1, [], 0, 0, 0⟩ (by rw [hp, if_neg hf]) rfl h
        · by_cases k4 : k.toNat = 4
          · obtain rfl : k = 4 := UInt8.toNat_inj.1 k4
            refine (g_parse4 H p n c M hb hn _ _ _ rfl rfl rfl).mono fun v H' h => ?_
            have hp : parO (4 :: M) = if (((RdS.number ⟨M, 0⟩ 1099511627776).2.number 1099511627776).2.number 2305843009213693950).2.fin ≠ 0 then none else some ⟨4, 0, 0, 0, 0, [], (RdS.number ⟨M, 0⟩ 1099511627776).1, ((RdS.number ⟨M, 0⟩ 1099511627776).2.number 1099511627776).1, (((RdS.number ⟨M, 0⟩ 1099511627776).2.number 1099511627776).2.number 2305843009213693950).1⟩ := by
              rw [parO, if_neg (by decide), if_neg (by decide), if_neg (by decide), if_pos (show (4 : UInt8).toNat = 4 from rfl)]
              rfl
            generalize RdS.number ⟨M, 0⟩ 1099511627776 = r1 at h hp
            generalize r1.2.number 1099511627776 = r2 at h hp
            generalize r2.2.number 2305843009213693950 = r3 at h hp
            by_cases hf : r3.2.fin ≠ 0
            · rw [if_pos hf] at h
              exact hfail v H' (by rw [hp, if_pos hf]) h
            · rw [if_neg hf] at h
              exact hgood v H' ⟨4, 0, 0, 0, 0, [], r1.1, r2.1, r3.1⟩ (by rw [hp, if_neg hf]) rfl h
          · exact (g_parse5 H p n c k M hb hn (by omega)).mono fun v H' h => hfail v H' (by rw [parO, if_neg k1, if_neg k2, if_neg k3, if_neg k4]) h
/-- The record that a reader has next, or what is wrong. -/
def rdrO (s : RdS) : Nat ⊕ RecS :=
  if (s.bytes 200).2.e ≠ 0 then .inl (s.bytes 200).2.e else match openL (s.bytes 200).1 with
    | none => .inl 4
    | some b => match parO b with
      | none => .inl 3
      | some r => .inr r
theorem bytes_len (s : RdS) (m : Int) : (s.bytes m).1.length ≤ (max m 0).toNat := by
  have := number_le' s (max m 0).toNat
  unfold RdS.bytes
  simp only
  split
  · simp
  · split
    · simp
    · simp only [List.length_take]
      omega
theorem openL_len {L b : List UInt8} (h : openL L = some b) : b.length ≤ L.length := by
  unfold openL at h
  split at h
  · injection h with h
    subst h
    simp only [List.length_take]
    omega
  · cases h
/-- What a read comes to. -/
def rdrP (T : TypeId) (H : Hp) (g : Nat) (s : RdS) (v : Value) (H' : Hp) : Prop := ((∀ e, rdrO s = .inl e → v = .tuple #[recV 0 0 0 0 0 (.slice none 0 0) 0 0 0, .int .i64 (e : Int)]) ∧ ∀ r, rdrO s = .inr r → ∃ p' n' c', v = .tuple #[r.val (.slice p' n' c'), .int .i64 0] ∧ BS H' (.slice p' n' c') r.blocks) ∧ (∃ p' c', RG T H' g p' c' (s.bytes 200).2) ∧ BSk H H' ∧ HExt [g] H H'
theorem rdrP_bad {T : TypeId} {H H' : Hp} {g : Nat} {s s2 : RdS} {v : Value} {e : Nat} (ho : rdrO s = .inl e) (hs : (s.bytes 200).2 = s2) (h : v = .tuple #[recV 0 0 0 0 0 (.slice none 0 0) 0 0 0, .int .i64 (e : Int)] ∧ (∃ p' c', RG T H' g p' c' s2) ∧ BSk H H' ∧ HExt [g] H H') : rdrP T H g s v H' := by
  subst hs
  exact ⟨⟨fun e' h' => by rw [ho] at h'; injection h' with h'; subst h'; exact h.1, fun r h' => by rw [ho] at h'; cases h'⟩, h.2⟩
theorem rdrP_good {T : TypeId} {H H' : Hp} {g : Nat} {s s2 : RdS} {v : Value} {r : RecS} (ho : rdrO s = .inr r) (hs : (s.bytes 200).2 = s2) (h : (∃ p' n' c', v = .tuple #[r.val (.slice p' n' c'), .int .i64 0] ∧ BS H' (.slice p' n' c') r.blocks) ∧ (∃ p' c', RG T H' g p' c' s2) ∧ BSk H H' ∧ HExt [g] H H') : rdrP T H g s v H' := by
  subst hs
  exact ⟨⟨fun e' h' => (by rw [ho] at h'; cases h'), fun q h' => by rw [ho] at h'; injection h' with h'; subst h'; exact h.1⟩, h.2⟩
set_option maxHeartbeats 4000000 in
set_option maxRecDepth 100000 in
set_option linter.unusedSimpArgs false in
theorem g_rdread (H : Hp) (g : Nat) (p : Option Addr) (c : Nat) (s : RdS) (h : RG 81 H g p c s) : GCalls Try.prog 16 [.pointer (some ⟨g, 0, none⟩)] [g] H (rdrP 81 H g s) := by
  have hlt := Hp.at_lt h.hg
  have hle := bytes_len s 200
  have hB := fun H p c (h : RG 81 H g p c s) => g_bytes H g p c s 200 (by omega) h
  have hr : rdrO s = if (s.bytes 200).2.e ≠ 0 then .inl (s.bytes 200).2.e else match openL (s.bytes 200).1 with
    | none => .inl 4
    | some b => match parO b with
      | none => .inl 3
      | some r => .inr r := rfl
  generalize hq : s.bytes 200 = q at hB hle hr
  have hq2 : (s.bytes 200).2 = q.2 := by rw [hq]
  clear hq
  obtain ⟨B, s2⟩ := q
  simp only at hle hB hr hq2
  by_cases he : s2.e ≠ 0
  · rw [if_pos he] at hr
    refine GCalls.mono ?_ fun v H' h => rdrP_bad hr hq2 h
    clear hr hq2 hle
    refine GCalls.body tab_is Try.func16 rfl Try.results16 Try.ntmps16 (by simp) ?_ ?_
    · first | (intro _ h; cases h; done) | (simp; done) | (simp; omega) | (intro i hi; simp at hi; rcases hi with rfl | rfl <;> omega) | (intro i hi; simp at hi; rcases hi with rfl | rfl | rfl <;> omega)
    focus
      refine GWP.seq ?_
      refine GWP.region ?_
      focus
        refine GOps.w1 rfl rfl rfl rfl (gop_alloc' (id := ?_) ?_ tab_is rfl rfl ?_) ?_
        rotate_left 1
        · rfl
        · decide
      refine GOps.r rfl rfl rfl rfl (grd_assign rfl rfl) ?_
      refine GOps.nil ?_
      refine GWP.seq ?_
      refine GWP.region ?_
      refine GOps.r rfl rfl rfl rfl (grd_move rfl rfl) ?_
      focus
        refine GOps.w rfl rfl rfl rfl (gop_call rfl Try.call32 rfl ?_ (hB _ ?_ ?_ ?_)) ?_
        · simp [Ctx.may]; done
        rotate_left 2
        refine rg_ext (by assumption) ?_
        refine HExt.push ?_
        · exact HExt.refl _ _
      rintro _ Hxa9 ⟨⟨pa1, na2, ca3, rfl, ba4⟩, ⟨pa5, ca6, ra7⟩, ka8, xa9⟩
      have xa9l := HExt.len xa9; try simp at xa9l
      refine GOps.r rfl rfl rfl rfl (grd_assign rfl rfl) ?_
      refine GOps.nil ?_
      refine GWP.seq ?_
      refine GWP.seq ?_
      refine GWP.region ?_
      refine GOps.r rfl rfl rfl rfl (grd_move rfl rfl) ?_
      focus
        refine GOps.w1 rfl rfl rfl rfl (gop_call rfl Try.call33 rfl ?_ (g_failed _ _ ?_ ?_ ?_ ?_)) ?_
        · intro _ h; cases h; done
        rotate_left 3
        · assumption
      refine GOps.r rfl rfl rfl rfl (grd_assign rfl rfl) ?_
      refine GOps.nil ?_
      refine GWP.seq ?_
      refine GWP.region ?_
      refine GOps.r rfl rfl rfl rfl (grd_move rfl rfl) ?_
      refine GOps.r rfl rfl rfl rfl (grd_neq rfl rfl rfl) ?_
      refine GOps.nil ?_
      refine GWP.cond_t rfl ?_ ?_
      · exact decide_eq_true (by omega)
      refine GWP.seq ?_
      refine GWP.region ?_
      focus
        refine GOps.r rfl rfl rfl rfl (grd_build (cs := ?_) tab_is rfl rfl rfl ?_ rfl ?_) ?_
        rotate_left 1
        · decide
        · simp [gfill, gsets, Value.cells]; rfl
      refine GOps.r rfl rfl rfl rfl (grd_move rfl rfl) ?_
      focus
        refine GOps.s rfl rfl rfl (gop_storeC (b := ?_) (cs := ?_) tab_is rfl rfl ?_ rfl rfl ?_ ?_ ?_ ?_ ?_ ?_) ?_
        rotate_left 2
        · rfl
        · rfl
        refine (HExt.eq (by assumption) _ ?_ ?_).trans ?_
        · simp; done
        · simp; omega
        · exact Hp.at_push_eq
        · rfl
        · decide
        · exact .inr (by simp)
        · simp [splice, Value.cells]; rfl
      refine GOps.r rfl rfl rfl rfl (grd_assign rfl rfl) ?_
      refine GOps.nil ?_
      refine GWP.ret ?_
      focus
        refine ⟨_, (.two (gres_cellNK (b := ?_) (cs := ?_) rfl rfl rfl ?_ ?_ ?_) (.one rfl)), ?_⟩
        rotate_left 2
        refine Hp.at_put_eq ?_
        · omega
        · decide
        · simp [Value.cells]; rfl
      refine ⟨?_, ?_⟩
      · rfl
      refine ⟨?_, ?_⟩
      focus
        refine ⟨?_, ?_, ?_⟩
        rotate_left 2
        focus
          refine rg_ne (b := ?_) ?_ ?_ ?_ ?_
          rotate_left 1
          focus
            · assumption
          refine (HExt.eq (by assumption) _ ?_ ?_).trans ?_
          · simp; done
          · simp; omega
          · exact Hp.at_push_eq
          · omega
          · rfl
      refine ⟨?_, ?_⟩
      focus
        refine bsk_low ?_ ?_
        focus
          refine BSk.trans ?_ (by assumption)
          refine bsk_push ?_
          · exact BSk.refl _
        · omega
      refine HExt.put ?_ ?_
      refine HExt.tr ?_ (by assumption) ?_
      refine HExt.push ?_
      · exact HExt.refl _ _
      · simp; done
      · exact .inr (by omega)
  · rw [if_neg he] at hr
    have hO := fun H p n c hb hn => g_copen H p n c B hb hn
    cases ho : openL B with
    | none =>
      rw [ho] at hO hr
      refine GCalls.mono ?_ fun v H' h => rdrP_bad hr hq2 h
      clear hr hq2
      refine GCalls.body tab_is Try.func16 rfl Try.results16 Try.ntmps16 (by simp) ?_ ?_
      · first | (intro _ h; cases h; done) | (simp; done) | (simp; omega) | (intro i hi; simp at hi; rcases hi with rfl | rfl <;> omega) | (intro i hi; simp at hi; rcases hi with rfl | rfl | rfl <;> omega)
      focus
        refine GWP.seq ?_
        refine GWP.region ?_
        focus
          refine GOps.w1 rfl rfl rfl rfl (gop_alloc' (id := ?_) ?_ tab_is rfl rfl ?_) ?_
          rotate_left 1
          · rfl
          · decide
        refine GOps.r rfl rfl rfl rfl (grd_assign rfl rfl) ?_
        refine GOps.nil ?_
        refine GWP.seq ?_
        refine GWP.region ?_
        refine GOps.r rfl rfl rfl rfl (grd_move rfl rfl) ?_
        focus
          refine GOps.w rfl rfl rfl rfl (gop_call rfl Try.call32 rfl ?_ (hB _ ?_ ?_ ?_)) ?_
          · simp [Ctx.may]; done
          rotate_left 2
          refine rg_ext (by assumption) ?_
          refine HExt.push ?_
          · exact HExt.refl _ _
        rintro _ Hxb9 ⟨⟨pb1, nb2, cb3, rfl, bb4⟩, ⟨pb5, cb6, rb7⟩, kb8, xb9⟩
        have xb9l := HExt.len xb9; try simp at xb9l
        have bb4n := BS.len bb4
        refine GOps.r rfl rfl rfl rfl (grd_assign rfl rfl) ?_
        refine GOps.nil ?_
        refine GWP.seq ?_
        refine GWP.seq ?_
        refine GWP.region ?_
        refine GOps.r rfl rfl rfl rfl (grd_move rfl rfl) ?_
        focus
          refine GOps.w1 rfl rfl rfl rfl (gop_call rfl Try.call33 rfl ?_ (g_failed _ _ ?_ ?_ ?_ ?_)) ?_
          · intro _ h; cases h; done
          rotate_left 3
          · assumption
        refine GOps.r rfl rfl rfl rfl (grd_assign rfl rfl) ?_
        refine GOps.nil ?_
        refine GWP.seq ?_
        refine GWP.region ?_
        refine GOps.r rfl rfl rfl rfl (grd_move rfl rfl) ?_
        refine GOps.r rfl rfl rfl rfl (grd_neq rfl rfl rfl) ?_
        refine GOps.nil ?_
        refine GWP.cond_f rfl ?_ ?_
        · exact decide_eq_false (by omega)
        refine GWP.skip ?_
        refine GWP.seq ?_
        refine GWP.region ?_
        refine GOps.r rfl rfl rfl rfl (grd_move rfl rfl) ?_
        refine GOps.w rfl rfl rfl rfl (gop_call rfl Try.call23 rfl ?_ (hO _ _ _ _ ?_ ?_)) ?_
        · intro _ h; cases h; done
        · assumption
        · omega
        rintro _ Hxb14 ⟨⟨pb10, nb11, cb12, rfl, bb13⟩, xb14⟩
        have xb14l := HExt.len xb14; try simp at xb14l
        have bb13n := BS.len bb13
        refine GOps.r rfl rfl rfl rfl (grd_move rfl rfl) ?_
        focus
          refine GOps.r rfl rfl rfl rfl (grd_extract (v := ?_) rfl rfl ?_) ?_
          rotate_left 1
          · simp only [List.getElem?_toArray, List.getElem?_cons_zero, List.getElem?_cons_succ]; rfl
        focus
          refine GOps.r rfl rfl rfl rfl (grd_extract (v := ?_) rfl rfl ?_) ?_
          rotate_left 1
          · simp only [List.getElem?_toArray, List.getElem?_cons_zero, List.getElem?_cons_succ]; rfl
        refine GOps.r rfl rfl rfl rfl (grd_assign rfl rfl) ?_
        refine GOps.r rfl rfl rfl rfl (grd_assign rfl rfl) ?_
        refine GOps.nil ?_
        refine GWP.seq ?_
        refine GWP.seq ?_
        refine GWP.region ?_
        refine GOps.r rfl rfl rfl rfl (grd_move rfl rfl) ?_
        refine GOps.r rfl rfl rfl rfl (grd_not rfl rfl) ?_
        refine GOps.nil ?_
        refine GWP.cond_t rfl ?_ ?_
        · simp; done
        refine GWP.seq ?_
        refine GWP.region ?_
        focus
          refine GOps.r rfl rfl rfl rfl (grd_build (cs := ?_) tab_is rfl rfl rfl ?_ rfl ?_) ?_
          rotate_left 1
          · decide
          · simp [gfill, gsets, Value.cells]; rfl
        focus
          refine GOps.s rfl rfl rfl (gop_storeC (b := ?_) (cs := ?_) tab_is rfl rfl ?_ rfl rfl ?_ ?_ ?_ ?_ ?_ ?_) ?_
          rotate_left 2
          · rfl
          · rfl
          refine (HExt.eq (by assumption) _ ?_ ?_).trans ?_
          · omega
          · intro h; cases h; done
          refine (HExt.eq (by assumption) _ ?_ ?_).trans ?_
          · simp; done
          · simp; omega
          · exact Hp.at_push_eq
          · rfl
          · decide
          · exact .inr (by simp)
          · simp [splice, Value.cells]; rfl
        refine GOps.r rfl rfl rfl rfl (grd_assign rfl rfl) ?_
        refine GOps.nil ?_
        refine GWP.ret ?_
        focus
          refine ⟨_, (.two (gres_cellNK (b := ?_) (cs := ?_) rfl rfl rfl ?_ ?_ ?_) (.one rfl)), ?_⟩
          rotate_left 2
          refine Hp.at_put_eq ?_
          · omega
          · decide
          · simp [Value.cells]; rfl
        refine ⟨?_, ?_⟩
        · rfl
        refine ⟨?_, ?_⟩
        focus
          refine ⟨?_, ?_, ?_⟩
          rotate_left 2
          focus
            refine rg_ne (b := ?_) ?_ ?_ ?_ ?_
            rotate_left 1
            focus
              refine rg_ext (by assumption) ?_
              · assumption
            refine (HExt.eq (by assumption) _ ?_ ?_).trans ?_
            · omega
            · intro h; cases h; done
            refine (HExt.eq (by assumption) _ ?_ ?_).trans ?_
            · simp; done
            · simp; omega
            · exact Hp.at_push_eq
            · omega
            · rfl
        refine ⟨?_, ?_⟩
        focus
          refine bsk_low ?_ ?_
          focus
            refine bsk_tail ?_ (by assumption)
            refine BSk.trans ?_ (by assumption)
            refine bsk_push ?_
            · exact BSk.refl _
          · omega
        refine HExt.put ?_ ?_
        refine HExt.tr ?_ (by assumption) ?_
        refine HExt.tr ?_ (by assumption) ?_
        refine HExt.push ?_
        · exact HExt.refl _ _
        · simp; done
        · intro _ h; cases h; done
        · exact .inr (by omega)
    | some D =>
      rw [ho] at hO hr
      have hD := openL_len ho
      cases hp : parO D with
      | none =>
        have hP : ∀ H p n c, BS H (.slice p n c) D → n ≤ 35184372088832 → GCalls Try.prog 34 [.slice p n c] [] H fun v H' => v = .tuple #[recV 0 0 0 0 0 (.slice none 0 0) 0 0 0, .int .i64 3] ∧ HExt [] H H' := fun H p n c hb hn => (g_parse H p n c D hb hn).mono fun v H' h => ⟨h.1.1 hp, h.2⟩
        simp only [hp] at hr
        refine GCalls.mono ?_ fun v H' h => rdrP_bad hr hq2 h
        clear hr hq2
        refine GCalls.body tab_is Try.func16 rfl Try.results16 Try.ntmps16 (by simp) ?_ ?_
        · first | (intro _ h; cases h; done) | (simp; done) | (simp; omega) | (intro i hi; simp at hi; rcases hi with rfl | rfl <;> omega) | (intro i hi; simp at hi; rcases hi with rfl | rfl | rfl <;> omega)
        focus
          refine GWP.seq ?_
          refine GWP.region ?_
          focus
            refine GOps.w1 rfl rfl rfl rfl (gop_alloc' (id := ?_) ?_ tab_is rfl rfl ?_) ?_
            rotate_left 1
            · rfl
            · decide
          refine GOps.r rfl rfl rfl rfl (grd_assign rfl rfl) ?_
          refine GOps.nil ?_
          refine GWP.seq ?_
          refine GWP.region ?_
          refine GOps.r rfl rfl rfl rfl (grd_move rfl rfl) ?_
          focus
            refine GOps.w rfl rfl rfl rfl (gop_call rfl Try.call32 rfl ?_ (hB _ ?_ ?_ ?_)) ?_
            · simp [Ctx.may]; done
            rotate_left 2
            refine rg_ext (by assumption) ?_
            refine HExt.push ?_
            · exact HExt.refl _ _
          rintro _ Hxd9 ⟨⟨pd1, nd2, cd3, rfl, bd4⟩, ⟨pd5, cd6, rd7⟩, kd8, xd9⟩
          have xd9l := HExt.len xd9; try simp at xd9l
          have bd4n := BS.len bd4; try simp only [Option.getD_some] at bd4n
          refine GOps.r rfl rfl rfl rfl (grd_assign rfl rfl) ?_
          refine GOps.nil ?_
          refine GWP.seq ?_
          refine GWP.seq ?_
          refine GWP.region ?_
          refine GOps.r rfl rfl rfl rfl (grd_move rfl rfl) ?_
          focus
            refine GOps.w1 rfl rfl rfl rfl (gop_call rfl Try.call33 rfl ?_ (g_failed _ _ ?_ ?_ ?_ ?_)) ?_
            · intro _ h; cases h; done
            rotate_left 3
            · assumption
          refine GOps.r rfl rfl rfl rfl (grd_assign rfl rfl) ?_
          refine GOps.nil ?_
          refine GWP.seq ?_
          refine GWP.region ?_
          refine GOps.r rfl rfl rfl rfl (grd_move rfl rfl) ?_
          refine GOps.r rfl rfl rfl rfl (grd_neq rfl rfl rfl) ?_
          refine GOps.nil ?_
          refine GWP.cond_f rfl ?_ ?_
          · exact decide_eq_false (by omega)
          refine GWP.skip ?_
          refine GWP.seq ?_
          refine GWP.region ?_
          refine GOps.r rfl rfl rfl rfl (grd_move rfl rfl) ?_
          refine GOps.w rfl rfl rfl rfl (gop_call rfl Try.call23 rfl ?_ (hO _ _ _ _ ?_ ?_)) ?_
          · intro _ h; cases h; done
          · assumption
          · omega
          rintro _ Hxd14 ⟨⟨pd10, nd11, cd12, rfl, bd13⟩, xd14⟩
          have xd14l := HExt.len xd14; try simp at xd14l
          have bd13n := BS.len bd13; try simp only [Option.getD_some] at bd13n
          refine GOps.r rfl rfl rfl rfl (grd_move rfl rfl) ?_
          focus
            refine GOps.r rfl rfl rfl rfl (grd_extract (v := ?_) rfl rfl ?_) ?_
            rotate_left 1
            · simp only [List.getElem?_toArray, List.getElem?_cons_zero, List.getElem?_cons_succ]; rfl
          focus
            refine GOps.r rfl rfl rfl rfl (grd_extract (v := ?_) rfl rfl ?_) ?_
            rotate_left 1
            · simp only [List.getElem?_toArray, List.getElem?_cons_zero, List.getElem?_cons_succ]; rfl
          refine GOps.r rfl rfl rfl rfl (grd_assign rfl rfl) ?_
          refine GOps.r rfl rfl rfl rfl (grd_assign rfl rfl) ?_
          refine GOps.nil ?_
          refine GWP.seq ?_
          refine GWP.seq ?_
          refine GWP.region ?_
          refine GOps.r rfl rfl rfl rfl (grd_move rfl rfl) ?_
          refine GOps.r rfl rfl rfl rfl (grd_not rfl rfl) ?_
          refine GOps.nil ?_
          refine GWP.cond_f rfl ?_ ?_
          · simp; done
          refine GWP.skip ?_
          refine GWP.seq ?_
          refine GWP.region ?_
          refine GOps.r rfl rfl rfl rfl (grd_move rfl rfl) ?_
          refine GOps.w rfl rfl rfl rfl (gop_call rfl Try.call34 rfl ?_ (hP _ _ _ _ ?_ ?_)) ?_
          · intro _ h; cases h; done
          · assumption
          · omega
          rintro _ Hxd15 ⟨rfl, xd15⟩
          have xd15l := HExt.len xd15; try simp at xd15l
          focus
            refine GOps.r rfl rfl rfl rfl (grd_extract (v := ?_) rfl rfl ?_) ?_
            rotate_left 1
            · simp only [List.getElem?_toArray, List.getElem?_cons_zero, List.getElem?_cons_succ]; rfl
          focus
            refine GOps.r rfl rfl rfl rfl (grd_extract (v := ?_) rfl rfl ?_) ?_
            rotate_left 1
            · simp only [List.getElem?_toArray, List.getElem?_cons_zero, List.getElem?_cons_succ]; rfl
          focus
            refine GOps.s rfl rfl rfl (gop_storeC (b := ?_) (cs := ?_) tab_is rfl rfl ?_ rfl rfl ?_ ?_ ?_ ?_ ?_ ?_) ?_
            rotate_left 2
            · rfl
            · rfl
            refine (HExt.eq (by assumption) _ ?_ ?_).trans ?_
            · omega
            · intro h; cases h; done
            refine (HExt.eq (by assumption) _ ?_ ?_).trans ?_
            · omega
            · intro h; cases h; done
            refine (HExt.eq (by assumption) _ ?_ ?_).trans ?_
            · simp; done
            · simp; omega
            · exact Hp.at_push_eq
            · rfl
            · decide
            · exact .inr (by simp)
            · simp [splice, Value.cells]; rfl
          refine GOps.r rfl rfl rfl rfl (grd_assign rfl rfl) ?_
          refine GOps.nil ?_
          refine GWP.ret ?_
          focus
            refine ⟨_, (.two (gres_cellNK (b := ?_) (cs := ?_) rfl rfl rfl ?_ ?_ ?_) (.one rfl)), ?_⟩
            rotate_left 2
            refine Hp.at_put_eq ?_
            · omega
            · decide
            · simp [Value.cells]; rfl
          refine ⟨?_, ?_⟩
          · rfl
          refine ⟨?_, ?_⟩
          focus
            refine ⟨?_, ?_, ?_⟩
            rotate_left 2
            focus
              refine rg_ne (b := ?_) ?_ ?_ ?_ ?_
              rotate_left 1
              focus
                refine rg_ext (by assumption) ?_
                refine HExt.tr ?_ (by assumption) ?_
                · assumption
                · intro _ h; cases h; done
              refine (HExt.eq (by assumption) _ ?_ ?_).trans ?_
              · omega
              · intro h; cases h; done
              refine (HExt.eq (by assumption) _ ?_ ?_).trans ?_
              · omega
              · intro h; cases h; done
              refine (HExt.eq (by assumption) _ ?_ ?_).trans ?_
              · simp; done
              · simp; omega
              · exact Hp.at_push_eq
              · omega
              · rfl
          refine ⟨?_, ?_⟩
          focus
            refine bsk_low ?_ ?_
            focus
              refine bsk_tail ?_ (by assumption)
              refine bsk_tail ?_ (by assumption)
              refine BSk.trans ?_ (by assumption)
              refine bsk_push ?_
              · exact BSk.refl _
            · omega
          refine HExt.put ?_ ?_
          refine HExt.tr ?_ (by assumption) ?_
          refine HExt.tr ?_ (by assumption) ?_
          refine HExt.tr ?_ (by assumption) ?_
          refine HExt.push ?_
          · exact HExt.refl _ _
          · simp; done
          · intro _ h; cases h; done
          · intro _ h; cases h; done
          · exact .inr (by omega)
      | some r =>
        have hP : ∀ H p n c, BS H (.slice p n c) D → n ≤ 35184372088832 → GCalls Try.prog 34 [.slice p n c] [] H fun v H' => (∃ p' n' c', v = .tuple #[.agg #[.int .u8 r.kind, .int .i64 r.id, .int .i64 r.base, .int .i64 r.fr, .int .i64 r.til, .slice p' n' c', .int .i64 r.count, .int .u64 r.len, .int .u64 r.sum], .int .i64 0] ∧ BS H' (.slice p' n' c') r.blocks) ∧ HExt [] H H' := fun H p n c hb hn => (g_parse H p n c D hb hn).mono fun v H' h => ⟨h.1.2 r hp, h.2⟩
        simp only [hp] at hr
        refine GCalls.mono ?_ fun v H' h => rdrP_good hr hq2 h
        clear hr hq2
        refine GCalls.body tab_is Try.func16 rfl Try.results16 Try.ntmps16 (by simp) ?_ ?_
        · first | (intro _ h; cases h; done) | (simp; done) | (simp; omega) | (intro i hi; simp at hi; rcases hi with rfl | rfl <;> omega) | (intro i hi; simp at hi; rcases hi with rfl | rfl | rfl <;> omega)
        focus
          refine GWP.seq ?_
          refine GWP.region ?_
          focus
            refine GOps.w1 rfl rfl rfl rfl (gop_alloc' (id := ?_) ?_ tab_is rfl rfl ?_) ?_
            rotate_left 1
            · rfl
            · decide
          refine GOps.r rfl rfl rfl rfl (grd_assign rfl rfl) ?_
          refine GOps.nil ?_
          refine GWP.seq ?_
          refine GWP.region ?_
          refine GOps.r rfl rfl rfl rfl (grd_move rfl rfl) ?_
          focus
            refine GOps.w rfl rfl rfl rfl (gop_call rfl Try.call32 rfl ?_ (hB _ ?_ ?_ ?_)) ?_
            · simp [Ctx.may]; done
            rotate_left 2
            refine rg_ext (by assumption) ?_
            refine HExt.push ?_
            · exact HExt.refl _ _
          rintro _ Hxe9 ⟨⟨pe1, ne2, ce3, rfl, be4⟩, ⟨pe5, ce6, re7⟩, ke8, xe9⟩
          have xe9l := HExt.len xe9; try simp at xe9l
          have be4n := BS.len be4; try simp only [Option.getD_some] at be4n
          refine GOps.r rfl rfl rfl rfl (grd_assign rfl rfl) ?_
          refine GOps.nil ?_
          refine GWP.seq ?_
          refine GWP.seq ?_
          refine GWP.region ?_
          refine GOps.r rfl rfl rfl rfl (grd_move rfl rfl) ?_
          focus
            refine GOps.w1 rfl rfl rfl rfl (gop_call rfl Try.call33 rfl ?_ (g_failed _ _ ?_ ?_ ?_ ?_)) ?_
            · intro _ h; cases h; done
            rotate_left 3
            · assumption
          refine GOps.r rfl rfl rfl rfl (grd_assign rfl rfl) ?_
          refine GOps.nil ?_
          refine GWP.seq ?_
          refine GWP.region ?_
          refine GOps.r rfl rfl rfl rfl (grd_move rfl rfl) ?_
          refine GOps.r rfl rfl rfl rfl (grd_neq rfl rfl rfl) ?_
          refine GOps.nil ?_
          refine GWP.cond_f rfl ?_ ?_
          · exact decide_eq_false (by omega)
          refine GWP.skip ?_
          refine GWP.seq ?_
          refine GWP.region ?_
          refine GOps.r rfl rfl rfl rfl (grd_move rfl rfl) ?_
          refine GOps.w rfl rfl rfl rfl (gop_call rfl Try.call23 rfl ?_ (hO _ _ _ _ ?_ ?_)) ?_
          · intro _ h; cases h; done
          · assumption
          · omega
          rintro _ Hxe14 ⟨⟨pe10, ne11, ce12, rfl, be13⟩, xe14⟩
          have xe14l := HExt.len xe14; try simp at xe14l
          have be13n := BS.len be13; try simp only [Option.getD_some] at be13n
          refine GOps.r rfl rfl rfl rfl (grd_move rfl rfl) ?_
          focus
            refine GOps.r rfl rfl rfl rfl (grd_extract (v := ?_) rfl rfl ?_) ?_
            rotate_left 1
            · simp only [List.getElem?_toArray, List.getElem?_cons_zero, List.getElem?_cons_succ]; rfl
          focus
            refine GOps.r rfl rfl rfl rfl (grd_extract (v := ?_) rfl rfl ?_) ?_
            rotate_left 1
            · simp only [List.getElem?_toArray, List.getElem?_cons_zero, List.getElem?_cons_succ]; rfl
          refine GOps.r rfl rfl rfl rfl (grd_assign rfl rfl) ?_
          refine GOps.r rfl rfl rfl rfl (grd_assign rfl rfl) ?_
          refine GOps.nil ?_
          refine GWP.seq ?_
          refine GWP.seq ?_
          refine GWP.region ?_
          refine GOps.r rfl rfl rfl rfl (grd_move rfl rfl) ?_
          refine GOps.r rfl rfl rfl rfl (grd_not rfl rfl) ?_
          refine GOps.nil ?_
          refine GWP.cond_f rfl ?_ ?_
          · simp; done
          refine GWP.skip ?_
          refine GWP.seq ?_
          refine GWP.region ?_
          refine GOps.r rfl rfl rfl rfl (grd_move rfl rfl) ?_
          refine GOps.w rfl rfl rfl rfl (gop_call rfl Try.call34 rfl ?_ (hP _ _ _ _ ?_ ?_)) ?_
          · intro _ h; cases h; done
          · assumption
          · omega
          rintro _ Hxe19 ⟨⟨pe15, ne16, ce17, rfl, be18⟩, xe19⟩
          have xe19l := HExt.len xe19; try simp at xe19l
          have be18n := BS.len be18; try simp only [Option.getD_some] at be18n
          focus
            refine GOps.r rfl rfl rfl rfl (grd_extract (v := ?_) rfl rfl ?_) ?_
            rotate_left 1
            · simp only [List.getElem?_toArray, List.getElem?_cons_zero, List.getElem?_cons_succ]; rfl
          focus
            refine GOps.r rfl rfl rfl rfl (grd_extract (v := ?_) rfl rfl ?_) ?_
            rotate_left 1
            · simp only [List.getElem?_toArray, List.getElem?_cons_zero, List.getElem?_cons_succ]; rfl
          focus
            refine GOps.s rfl rfl rfl (gop_storeC (b := ?_) (cs := ?_) tab_is rfl rfl ?_ rfl rfl ?_ ?_ ?_ ?_ ?_ ?_) ?_
            rotate_left 2
            · rfl
            · rfl
            refine (HExt.eq (by assumption) _ ?_ ?_).trans ?_
            · omega
            · intro h; cases h; done
            refine (HExt.eq (by assumption) _ ?_ ?_).trans ?_
            · omega
            · intro h; cases h; done
            refine (HExt.eq (by assumption) _ ?_ ?_).trans ?_
            · simp; done
            · simp; omega
            · exact Hp.at_push_eq
            · rfl
            · exact Nat.le_of_ble_eq_true rfl
            · exact .inr (by simp)
            · simp [splice, Value.cells]; rfl
          refine GOps.r rfl rfl rfl rfl (grd_assign rfl rfl) ?_
          refine GOps.nil ?_
          refine GWP.ret ?_
          focus
            refine ⟨_, (.two (gres_cellNK (b := ?_) (cs := ?_) rfl rfl rfl ?_ ?_ ?_) (.one rfl)), ?_⟩
            rotate_left 2
            refine Hp.at_put_eq ?_
            · omega
            · exact Nat.le_of_ble_eq_true rfl
            · simp [Value.cells]; rfl
          refine ⟨?_, ?_⟩
          focus
            refine ⟨_, _, _, rfl, ?_⟩
            refine bs_put (b := ?_) ?_ ?_ ?_
            rotate_left 3
            focus
              · assumption
            rotate_left 1
            refine (HExt.eq (by assumption) _ ?_ ?_).trans ?_
            · omega
            · intro h; cases h; done
            refine (HExt.eq (by assumption) _ ?_ ?_).trans ?_
            · omega
            · intro h; cases h; done
            refine (HExt.eq (by assumption) _ ?_ ?_).trans ?_
            · simp; done
            · simp; omega
            · exact Hp.at_push_eq
            · rfl
          refine ⟨?_, ?_⟩
          focus
            refine ⟨?_, ?_, ?_⟩
            rotate_left 2
            focus
              refine rg_ne (b := ?_) ?_ ?_ ?_ ?_
              rotate_left 1
              focus
                refine rg_ext (by assumption) ?_
                refine HExt.tr ?_ (by assumption) ?_
                · assumption
                · intro _ h; cases h; done
              refine (HExt.eq (by assumption) _ ?_ ?_).trans ?_
              · omega
              · intro h; cases h; done
              refine (HExt.eq (by assumption) _ ?_ ?_).trans ?_
              · omega
              · intro h; cases h; done
              refine (HExt.eq (by assumption) _ ?_ ?_).trans ?_
              · simp; done
              · simp; omega
              · exact Hp.at_push_eq
              · omega
              · rfl
          refine ⟨?_, ?_⟩
          focus
            refine bsk_low ?_ ?_
            focus
              refine bsk_tail ?_ (by assumption)
              refine bsk_tail ?_ (by assumption)
              refine BSk.trans ?_ (by assumption)
              refine bsk_push ?_
              · exact BSk.refl _
            · omega
          refine HExt.put ?_ ?_
          refine HExt.tr ?_ (by assumption) ?_
          refine HExt.tr ?_ (by assumption) ?_
          refine HExt.tr ?_ (by assumption) ?_
          refine HExt.push ?_
          · exact HExt.refl _ _
          · simp; done
          · intro _ h; cases h; done
          · intro _ h; cases h; done
          · exact .inr (by omega)
end Go.Proofs.Ytjlimdiimdihfaa

/- Records out of bytes: the document's test of a record. -/
namespace Go.Proofs.Ytjlimdiimdihfaa
open Go.RowKit

/-- A record's cells, its blocks as a string. -/
def recT (k id base fr to_ : Int) (L : List UInt8) (cnt len sum : Int) : Value := .agg #[.int .u8 k, .int .i64 id, .int .i64 base, .int .i64 fr, .int .i64 to_, .string ⟨L.toArray⟩, .int .i64 cnt, .int .u64 len, .int .u64 sum]
theorem vb_iff {p q : Prop} [Decidable p] [Decidable q] (h : p ↔ q) : Value.bool (decide p) = .bool (decide q) := congrArg Value.bool (by by_cases hq : q <;> simp [h, hq])
theorem vb_t {p : Prop} [Decidable p] (h : p) : Value.bool (decide p) = .bool true := congrArg Value.bool (decide_eq_true h)
theorem vb_f {p : Prop} [Decidable p] (h : ¬ p) : Value.bool false = .bool (decide p) := congrArg Value.bool (decide_eq_false h).symm
set_option maxHeartbeats 4000000 in
set_option maxRecDepth 100000 in
set_option linter.unusedSimpArgs false in
theorem g_right1 (H : Hp) (i b : Nat) (hi : i ≤ 1099511627776) (hb : b ≤ 1099511627776) : GCalls Try.prog 15 [recT 1 i b 0 0 [] 0 0 0] [] H fun v H' => v = .bool true ∧ HExt [] H H' := by
  unfold recT
  refine GCalls.body tab_is Try.func15 rfl Try.results15 Try.ntmps15 (by simp) ?_ ?_
  · first | (intro _ h; cases h; done) | (simp; done) | (simp; omega) | (intro i hi; simp at hi; rcases hi with rfl | rfl <;> omega) | (intro i hi; simp at hi; rcases hi with rfl | rfl | rfl <;> omega)
  focus
    refine GWP.seq ?_
    refine GWP.region ?_
    focus
      refine GOps.w1 rfl rfl rfl rfl (gop_box' (id := ?_) ?_ rfl rfl rfl) ?_
      rotate_left 1
      · rfl
    refine GOps.r rfl rfl rfl rfl (grd_assign rfl rfl) ?_
    refine GOps.nil ?_
    refine GWP.seq ?_
    refine GWP.region ?_
    refine GOps.r rfl rfl rfl rfl (grd_fieldAddr tab_is rfl rfl rfl rfl rfl) ?_
    focus
      refine GOps.r rfl rfl rfl rfl (grd_load1 (b := ?_) (v := ?_) tab_is rfl rfl rfl rfl ?_ ?_) ?_
      rotate_left 2
      · exact Hp.at_push_eq
      · rfl
    focus
      refine GOps.r rfl rfl rfl rfl (grd_build (cs := ?_) tab_is rfl rfl rfl ?_ rfl ?_) ?_
      rotate_left 1
      · decide
      · simp [gfill, gsets, Value.cells]; rfl
    focus
      refine GOps.w1 rfl rfl rfl rfl (gop_alloc' (id := ?_) ?_ tab_is rfl rfl ?_) ?_
      rotate_left 1
      · simp; rfl
      · decide
    focus
      refine GOps.s rfl rfl rfl (gop_storeC (b := ?_) (cs := ?_) tab_is rfl rfl ?_ rfl rfl ?_ ?_ ?_ ?_ ?_ ?_) ?_
      rotate_left 2
      · rfl
      · rfl
      refine Hp.at_push_id ?_
      · simp; done
      · rfl
      · decide
      · exact .inr (by simp)
      · simp [splice, Value.cells]; rfl
    refine GOps.nil ?_
    refine GWP.seq ?_
    refine GWP.region ?_
    refine GOps.r rfl rfl rfl rfl (grd_assign rfl rfl) ?_
    refine GOps.nil ?_
    refine GWP.seq ?_
    refine GWP.seq ?_
    refine GWP.region ?_
    refine GOps.r rfl rfl rfl rfl (grd_fieldAddr tab_is rfl rfl rfl rfl rfl) ?_
    focus
      refine GOps.r rfl rfl rfl rfl (grd_load1 (b := ?_) (v := ?_) tab_is rfl rfl rfl rfl ?_ ?_) ?_
      rotate_left 2
      refine (Hp.at_put_ne ?_).trans ?_
      · omega
      refine (Hp.at_push_lt ?_).trans ?_
      · simp; done
      · exact Hp.at_push_eq
      · rfl
    refine GOps.nil ?_
    refine GWP.block ?_
    refine GWP.seq ?_
    refine GWP.region ?_
    refine GOps.r rfl rfl rfl rfl (grd_eql rfl rfl rfl) ?_
    refine GOps.r rfl rfl rfl rfl (grd_assign rfl rfl) ?_
    refine GOps.nil ?_
    refine GWP.cond_t rfl ?_ ?_
    · exact decide_eq_true (by omega)
    refine GWP.seq ?_
    refine GWP.region ?_
    refine GOps.r rfl rfl rfl rfl (grd_fieldAddr tab_is rfl rfl rfl rfl rfl) ?_
    focus
      refine GOps.r rfl rfl rfl rfl (grd_load1 (b := ?_) (v := ?_) tab_is rfl rfl rfl rfl ?_ ?_) ?_
      rotate_left 2
      refine (Hp.at_put_ne ?_).trans ?_
      · omega
      refine (Hp.at_push_lt ?_).trans ?_
      · simp; done
      · exact Hp.at_push_eq
      · rfl
    refine GOps.r rfl rfl rfl rfl (grd_fieldAddr tab_is rfl rfl rfl rfl rfl) ?_
    focus
      refine GOps.s rfl rfl rfl (gop_store1 (b := ?_) tab_is rfl rfl rfl rfl rfl rfl ?_ ?_ ?_ ?_) ?_
      rotate_left 1
      refine Hp.at_put_eq ?_
      · simp; done
      · rfl
      · decide
      · exact .inr (by simp)
    refine GOps.nil ?_
    refine GWP.seq ?_
    refine GWP.region ?_
    refine GOps.r rfl rfl rfl rfl (grd_fieldAddr tab_is rfl rfl rfl rfl rfl) ?_
    focus
      refine GOps.r rfl rfl rfl rfl (grd_load1 (b := ?_) (v := ?_) tab_is rfl rfl rfl rfl ?_ ?_) ?_
      rotate_left 2
      refine (Hp.at_put_ne ?_).trans ?_
      · omega
      refine (Hp.at_put_ne ?_).trans ?_
      · omega
      refine (Hp.at_push_lt ?_).trans ?_
      · simp; done
      · exact Hp.at_push_eq
      · rfl
    refine GOps.r rfl rfl rfl rfl (grd_fieldAddr tab_is rfl rfl rfl rfl rfl) ?_
    focus
      refine GOps.s rfl rfl rfl (gop_store1 (b := ?_) tab_is rfl rfl rfl rfl rfl rfl ?_ ?_ ?_ ?_) ?_
      rotate_left 1
      refine Hp.at_put_eq ?_
      · simp; done
      · rfl
      · exact Nat.le_of_ble_eq_true rfl
      · exact .inr (by simp)
    refine GOps.nil ?_
    refine GWP.seq ?_
    refine GWP.region ?_
    focus
      refine GOps.r rfl rfl rfl rfl (grd_loadNK (b := ?_) (cs := ?_) tab_is rfl rfl rfl rfl ?_ ?_ ?_) ?_
      rotate_left 2
      refine (Hp.at_put_ne ?_).trans ?_
      · omega
      refine (Hp.at_put_ne ?_).trans ?_
      · omega
      refine (Hp.at_put_ne ?_).trans ?_
      · omega
      refine (Hp.at_push_lt ?_).trans ?_
      · simp; done
      · exact Hp.at_push_eq
      · exact Nat.le_of_ble_eq_true rfl
      · simp [Value.cells]; rfl
    focus
      refine GOps.r rfl rfl rfl rfl (grd_loadNK (b := ?_) (cs := ?_) tab_is rfl rfl rfl rfl ?_ ?_ ?_) ?_
      rotate_left 2
      refine Hp.at_put_eq ?_
      · simp; done
      · exact Nat.le_of_ble_eq_true rfl
      · simp [Value.cells]; rfl
    focus
      refine GOps.r rfl rfl rfl rfl (grd_aeqlK (b := ?_) tab_is rfl rfl rfl rfl rfl rfl ?_ ?_ ?_) ?_
      rotate_left 1
      · rfl
      · rfl
      · simp [lEq, cEq]; rfl
    refine GOps.r rfl rfl rfl rfl (grd_move rfl rfl) ?_
    refine GOps.take rfl rfl ?_ ?_
    · simp; done
    refine GOps.r rfl rfl rfl rfl (grd_fieldAddr tab_is rfl rfl rfl rfl rfl) ?_
    refine GOps.take rfl rfl ?_ ?_
    · simp; done
    focus
      refine GOps.r rfl rfl rfl rfl (grd_load1 (b := ?_) (v := ?_) tab_is rfl rfl rfl rfl ?_ ?_) ?_
      rotate_left 2
      refine (Hp.at_put_ne ?_).trans ?_
      · omega
      refine (Hp.at_put_ne ?_).trans ?_
      · omega
      refine (Hp.at_put_ne ?_).trans ?_
      · omega
      refine (Hp.at_push_lt ?_).trans ?_
      · simp; done
      · exact Hp.at_push_eq
      · rfl
    refine GOps.take rfl rfl ?_ ?_
    · simp; done
    refine GOps.r rfl rfl rfl rfl (grd_geq rfl rfl rfl) ?_
    refine GOps.r rfl rfl rfl rfl (grd_pick_t rfl rfl ?_ rfl) ?_
    · with_reducible rfl
    refine GOps.r rfl rfl rfl rfl (grd_move rfl rfl) ?_
    refine GOps.take rfl rfl ?_ ?_
    · simp; done
    refine GOps.r rfl rfl rfl rfl (grd_fieldAddr tab_is rfl rfl rfl rfl rfl) ?_
    refine GOps.take rfl rfl ?_ ?_
    · simp; done
    focus
      refine GOps.r rfl rfl rfl rfl (grd_load1 (b := ?_) (v := ?_) tab_is rfl rfl rfl rfl ?_ ?_) ?_
      rotate_left 2
      refine (Hp.at_put_ne ?_).trans ?_
      · omega
      refine (Hp.at_put_ne ?_).trans ?_
      · omega
      refine (Hp.at_put_ne ?_).trans ?_
      · omega
      refine (Hp.at_push_lt ?_).trans ?_
      · simp; done
      · exact Hp.at_push_eq
      · rfl
    refine GOps.take rfl rfl ?_ ?_
    · simp; done
    refine GOps.r rfl rfl rfl rfl (grd_move rfl rfl) ?_
    refine GOps.take rfl rfl ?_ ?_
    · simp; done
    refine GOps.r rfl rfl rfl rfl (grd_leq rfl rfl rfl) ?_
    refine GOps.r rfl rfl rfl rfl (grd_pick_t rfl rfl ?_ rfl) ?_
    · exact decide_eq_true (by omega)
    refine GOps.r rfl rfl rfl rfl (grd_move rfl rfl) ?_
    refine GOps.take rfl rfl ?_ ?_
    · simp; omega
    refine GOps.r rfl rfl rfl rfl (grd_fieldAddr tab_is rfl rfl rfl rfl rfl) ?_
    refine GOps.take rfl rfl ?_ ?_
    · simp; omega
    focus
      refine GOps.r rfl rfl rfl rfl (grd_load1 (b := ?_) (v := ?_) tab_is rfl rfl rfl rfl ?_ ?_) ?_
      rotate_left 2
      refine (Hp.at_put_ne ?_).trans ?_
      · omega
      refine (Hp.at_put_ne ?_).trans ?_
      · omega
      refine (Hp.at_put_ne ?_).trans ?_
      · omega
      refine (Hp.at_push_lt ?_).trans ?_
      · simp; done
      · exact Hp.at_push_eq
      · rfl
    refine GOps.take rfl rfl ?_ ?_
    · simp; omega
    refine GOps.r rfl rfl rfl rfl (grd_geq rfl rfl rfl) ?_
    refine GOps.r rfl rfl rfl rfl (grd_pick_t rfl rfl ?_ rfl) ?_
    · exact decide_eq_true (by omega)
    refine GOps.r rfl rfl rfl rfl (grd_move rfl rfl) ?_
    refine GOps.take rfl rfl ?_ ?_
    · simp; done
    refine GOps.r rfl rfl rfl rfl (grd_fieldAddr tab_is rfl rfl rfl rfl rfl) ?_
    refine GOps.take rfl rfl ?_ ?_
    · simp; done
    focus
      refine GOps.r rfl rfl rfl rfl (grd_load1 (b := ?_) (v := ?_) tab_is rfl rfl rfl rfl ?_ ?_) ?_
      rotate_left 2
      refine (Hp.at_put_ne ?_).trans ?_
      · omega
      refine (Hp.at_put_ne ?_).trans ?_
      · omega
      refine (Hp.at_put_ne ?_).trans ?_
      · omega
      refine (Hp.at_push_lt ?_).trans ?_
      · simp; done
      · exact Hp.at_push_eq
      · rfl
    refine GOps.take rfl rfl ?_ ?_
    · simp; done
    refine GOps.r rfl rfl rfl rfl (grd_move rfl rfl) ?_
    refine GOps.take rfl rfl ?_ ?_
    · simp; done
    refine GOps.r rfl rfl rfl rfl (grd_leq rfl rfl rfl) ?_
    refine GOps.r rfl rfl rfl rfl (grd_pick_t rfl rfl ?_ rfl) ?_
    · exact decide_eq_true (by omega)
    refine GOps.r rfl rfl rfl rfl (grd_assign rfl rfl) ?_
    refine GOps.nil ?_
    refine GWP.ret ?_
    refine ⟨_, .one rfl, ?_⟩
    refine ⟨?_, ?_⟩
    · exact vb_t (by omega)
    refine HExt.put ?_ ?_
    refine HExt.put ?_ ?_
    refine HExt.put ?_ ?_
    refine HExt.push ?_
    refine HExt.push ?_
    · exact HExt.refl _ _
    · exact .inr (by omega)
    · exact .inr (by omega)
    · exact .inr (by omega)
set_option maxHeartbeats 4000000 in
set_option maxRecDepth 100000 in
set_option linter.unusedSimpArgs false in
theorem g_right2 (H : Hp) (f t : Nat) (D : List UInt8) (hf : f ≤ 255) (ht : f ≤ t) (ht2 : t < 9223372036854775000) : GCalls Try.prog 15 [recT 2 0 0 f t D 0 0 0] [] H fun v H' => v = .bool (decide (1 ≤ t - f ∧ t - f ≤ 4 ∧ t ≤ 256 ∧ D.length = 32 * (t - f))) ∧ HExt [] H H' := by
  unfold recT
  refine GCalls.body tab_is Try.func15 rfl Try.results15 Try.ntmps15 (by simp) ?_ ?_
  · first | (intro _ h; cases h; done) | (simp; done) | (simp; omega) | (intro i hi; simp at hi; rcases hi with rfl | rfl <;> omega) | (intro i hi; simp at hi; rcases hi with rfl | rfl | rfl <;> omega)
  focus
    refine GWP.seq ?_
    refine GWP.region ?_
    focus
      refine GOps.w1 rfl rfl rfl rfl (gop_box' (id := ?_) ?_ rfl rfl rfl) ?_
      rotate_left 1
      · rfl
    refine GOps.r rfl rfl rfl rfl (grd_assign rfl rfl) ?_
    refine GOps.nil ?_
    refine GWP.seq ?_
    refine GWP.region ?_
    refine GOps.r rfl rfl rfl rfl (grd_fieldAddr tab_is rfl rfl rfl rfl rfl) ?_
    focus
      refine GOps.r rfl rfl rfl rfl (grd_load1 (b := ?_) (v := ?_) tab_is rfl rfl rfl rfl ?_ ?_) ?_
      rotate_left 2
      · exact Hp.at_push_eq
      · rfl
    focus
      refine GOps.r rfl rfl rfl rfl (grd_build (cs := ?_) tab_is rfl rfl rfl ?_ rfl ?_) ?_
      rotate_left 1
      · decide
      · simp [gfill, gsets, Value.cells]; rfl
    focus
      refine GOps.w1 rfl rfl rfl rfl (gop_alloc' (id := ?_) ?_ tab_is rfl rfl ?_) ?_
      rotate_left 1
      · simp; rfl
      · decide
    focus
      refine GOps.s rfl rfl rfl (gop_storeC (b := ?_) (cs := ?_) tab_is rfl rfl ?_ rfl rfl ?_ ?_ ?_ ?_ ?_ ?_) ?_
      rotate_left 2
      · rfl
      · rfl
      refine Hp.at_push_id ?_
      · simp; done
      · rfl
      · decide
      · exact .inr (by simp)
      · simp [splice, Value.cells]; rfl
    refine GOps.nil ?_
    refine GWP.seq ?_
    refine GWP.region ?_
    refine GOps.r rfl rfl rfl rfl (grd_assign rfl rfl) ?_
    refine GOps.nil ?_
    refine GWP.seq ?_
    refine GWP.seq ?_
    refine GWP.region ?_
    refine GOps.r rfl rfl rfl rfl (grd_fieldAddr tab_is rfl rfl rfl rfl rfl) ?_
    focus
      refine GOps.r rfl rfl rfl rfl (grd_load1 (b := ?_) (v := ?_) tab_is rfl rfl rfl rfl ?_ ?_) ?_
      rotate_left 2
      refine (Hp.at_put_ne ?_).trans ?_
      · omega
      refine (Hp.at_push_lt ?_).trans ?_
      · simp; done
      · exact Hp.at_push_eq
      · rfl
    refine GOps.nil ?_
    refine GWP.block ?_
    refine GWP.seq ?_
    refine GWP.region ?_
    refine GOps.r rfl rfl rfl rfl (grd_eql rfl rfl rfl) ?_
    refine GOps.r rfl rfl rfl rfl (grd_assign rfl rfl) ?_
    refine GOps.nil ?_
    refine GWP.cond_f rfl ?_ ?_
    · exact decide_eq_false (by omega)
    refine GWP.seq ?_
    refine GWP.region ?_
    refine GOps.r rfl rfl rfl rfl (grd_eql rfl rfl rfl) ?_
    refine GOps.r rfl rfl rfl rfl (grd_assign rfl rfl) ?_
    refine GOps.nil ?_
    refine GWP.cond_t rfl ?_ ?_
    · exact decide_eq_true (by omega)
    refine GWP.seq ?_
    refine GWP.region ?_
    refine GOps.r rfl rfl rfl rfl (grd_fieldAddr tab_is rfl rfl rfl rfl rfl) ?_
    focus
      refine GOps.r rfl rfl rfl rfl (grd_load1 (b := ?_) (v := ?_) tab_is rfl rfl rfl rfl ?_ ?_) ?_
      rotate_left 2
      refine (Hp.at_put_ne ?_).trans ?_
      · omega
      refine (Hp.at_push_lt ?_).trans ?_
      · simp; done
      · exact Hp.at_push_eq
      · rfl
    refine GOps.r rfl rfl rfl rfl (grd_fieldAddr tab_is rfl rfl rfl rfl rfl) ?_
    focus
      refine GOps.s rfl rfl rfl (gop_store1 (b := ?_) tab_is rfl rfl rfl rfl rfl rfl ?_ ?_ ?_ ?_) ?_
      rotate_left 1
      refine Hp.at_put_eq ?_
      · simp; done
      · rfl
      · decide
      · exact .inr (by simp)
    refine GOps.nil ?_
    refine GWP.seq ?_
    refine GWP.region ?_
    refine GOps.r rfl rfl rfl rfl (grd_fieldAddr tab_is rfl rfl rfl rfl rfl) ?_
    focus
      refine GOps.r rfl rfl rfl rfl (grd_load1 (b := ?_) (v := ?_) tab_is rfl rfl rfl rfl ?_ ?_) ?_
      rotate_left 2
      refine (Hp.at_put_ne ?_).trans ?_
      · omega
      refine (Hp.at_put_ne ?_).trans ?_
      · omega
      refine (Hp.at_push_lt ?_).trans ?_
      · simp; done
      · exact Hp.at_push_eq
      · rfl
    refine GOps.r rfl rfl rfl rfl (grd_fieldAddr tab_is rfl rfl rfl rfl rfl) ?_
    focus
      refine GOps.s rfl rfl rfl (gop_store1 (b := ?_) tab_is rfl rfl rfl rfl rfl rfl ?_ ?_ ?_ ?_) ?_
      rotate_left 1
      refine Hp.at_put_eq ?_
      · simp; done
      · rfl
      · exact Nat.le_of_ble_eq_true rfl
      · exact .inr (by simp)
    refine GOps.nil ?_
    refine GWP.seq ?_
    refine GWP.region ?_
    refine GOps.r rfl rfl rfl rfl (grd_fieldAddr tab_is rfl rfl rfl rfl rfl) ?_
    focus
      refine GOps.r rfl rfl rfl rfl (grd_load1 (b := ?_) (v := ?_) tab_is rfl rfl rfl rfl ?_ ?_) ?_
      rotate_left 2
      refine (Hp.at_put_ne ?_).trans ?_
      · omega
      refine (Hp.at_put_ne ?_).trans ?_
      · omega
      refine (Hp.at_put_ne ?_).trans ?_
      · omega
      refine (Hp.at_push_lt ?_).trans ?_
      · simp; done
      · exact Hp.at_push_eq
      · rfl
    refine GOps.r rfl rfl rfl rfl (grd_fieldAddr tab_is rfl rfl rfl rfl rfl) ?_
    focus
      refine GOps.s rfl rfl rfl (gop_store1 (b := ?_) tab_is rfl rfl rfl rfl rfl rfl ?_ ?_ ?_ ?_) ?_
      rotate_left 1
      refine Hp.at_put_eq ?_
      · simp; done
      · rfl
      · exact Nat.le_of_ble_eq_true rfl
      · exact .inr (by simp)
    refine GOps.nil ?_
    refine GWP.seq ?_
    refine GWP.region ?_
    refine GOps.r rfl rfl rfl rfl (grd_fieldAddr tab_is rfl rfl rfl rfl rfl) ?_
    focus
      refine GOps.r rfl rfl rfl rfl (grd_load1 (b := ?_) (v := ?_) tab_is rfl rfl rfl rfl ?_ ?_) ?_
      rotate_left 2
      refine (Hp.at_put_ne ?_).trans ?_
      · omega
      refine (Hp.at_put_ne ?_).trans ?_
      · omega
      refine (Hp.at_put_ne ?_).trans ?_
      · omega
      refine (Hp.at_put_ne ?_).trans ?_
      · omega
      refine (Hp.at_push_lt ?_).trans ?_
      · simp; done
      · exact Hp.at_push_eq
      · rfl
    refine GOps.r rfl rfl rfl rfl (grd_fieldAddr tab_is rfl rfl rfl rfl rfl) ?_
    focus
      refine GOps.r rfl rfl rfl rfl (grd_load1 (b := ?_) (v := ?_) tab_is rfl rfl rfl rfl ?_ ?_) ?_
      rotate_left 2
      refine (Hp.at_put_ne ?_).trans ?_
      · omega
      refine (Hp.at_put_ne ?_).trans ?_
      · omega
      refine (Hp.at_put_ne ?_).trans ?_
      · omega
      refine (Hp.at_put_ne ?_).trans ?_
      · omega
      refine (Hp.at_push_lt ?_).trans ?_
      · simp; done
      · exact Hp.at_push_eq
      · rfl
    refine GOps.r rfl rfl rfl rfl (grd_sub64 rfl rfl rfl ?_) ?_
    · omega
    refine GOps.r rfl rfl rfl rfl (grd_assign rfl rfl) ?_
    refine GOps.nil ?_
    refine GWP.seq ?_
    refine GWP.region ?_
    focus
      refine GOps.r rfl rfl rfl rfl (grd_loadNK (b := ?_) (cs := ?_) tab_is rfl rfl rfl rfl ?_ ?_ ?_) ?_
      rotate_left 2
      refine (Hp.at_put_ne ?_).trans ?_
      · omega
      refine (Hp.at_put_ne ?_).trans ?_
      · omega
      refine (Hp.at_put_ne ?_).trans ?_
      · omega
      refine (Hp.at_put_ne ?_).trans ?_
      · omega
      refine (Hp.at_push_lt ?_).trans ?_
      · simp; done
      · exact Hp.at_push_eq
      · exact Nat.le_of_ble_eq_true rfl
      · simp [Value.cells]; rfl
    focus
      refine GOps.r rfl rfl rfl rfl (grd_loadNK (b := ?_) (cs := ?_) tab_is rfl rfl rfl rfl ?_ ?_ ?_) ?_
      rotate_left 2
      refine Hp.at_put_eq ?_
      · simp; done
      · exact Nat.le_of_ble_eq_true rfl
      · simp [Value.cells]; rfl
    focus
      refine GOps.r rfl rfl rfl rfl (grd_aeqlK (b := ?_) tab_is rfl rfl rfl rfl rfl rfl ?_ ?_ ?_) ?_
      rotate_left 1
      · rfl
      · rfl
      · simp [lEq, cEq]; rfl
    refine GOps.r rfl rfl rfl rfl (grd_move rfl rfl) ?_
    refine GOps.take rfl rfl ?_ ?_
    · simp; done
    refine GOps.r rfl rfl rfl rfl (grd_fieldAddr tab_is rfl rfl rfl rfl rfl) ?_
    refine GOps.take rfl rfl ?_ ?_
    · simp; done
    focus
      refine GOps.r rfl rfl rfl rfl (grd_load1 (b := ?_) (v := ?_) tab_is rfl rfl rfl rfl ?_ ?_) ?_
      rotate_left 2
      refine (Hp.at_put_ne ?_).trans ?_
      · omega
      refine (Hp.at_put_ne ?_).trans ?_
      · omega
      refine (Hp.at_put_ne ?_).trans ?_
      · omega
      refine (Hp.at_put_ne ?_).trans ?_
      · omega
      refine (Hp.at_push_lt ?_).trans ?_
      · simp; done
      · exact Hp.at_push_eq
      · rfl
    refine GOps.take rfl rfl ?_ ?_
    · simp; done
    refine GOps.r rfl rfl rfl rfl (grd_geq rfl rfl rfl) ?_
    refine GOps.r rfl rfl rfl rfl (grd_pick_t rfl rfl ?_ rfl) ?_
    · with_reducible rfl
    refine GOps.r rfl rfl rfl rfl (grd_move rfl rfl) ?_
    refine GOps.take rfl rfl ?_ ?_
    · simp; done
    refine GOps.r rfl rfl rfl rfl (grd_fieldAddr tab_is rfl rfl rfl rfl rfl) ?_
    refine GOps.take rfl rfl ?_ ?_
    · simp; done
    focus
      refine GOps.r rfl rfl rfl rfl (grd_load1 (b := ?_) (v := ?_) tab_is rfl rfl rfl rfl ?_ ?_) ?_
      rotate_left 2
      refine (Hp.at_put_ne ?_).trans ?_
      · omega
      refine (Hp.at_put_ne ?_).trans ?_
      · omega
      refine (Hp.at_put_ne ?_).trans ?_
      · omega
      refine (Hp.at_put_ne ?_).trans ?_
      · omega
      refine (Hp.at_push_lt ?_).trans ?_
      · simp; done
      · exact Hp.at_push_eq
      · rfl
    refine GOps.take rfl rfl ?_ ?_
    · simp; done
    refine GOps.r rfl rfl rfl rfl (grd_lss rfl rfl rfl) ?_
    refine GOps.r rfl rfl rfl rfl (grd_pick_t rfl rfl ?_ rfl) ?_
    · exact decide_eq_true (by omega)
    refine GOps.r rfl rfl rfl rfl (grd_move rfl rfl) ?_
    refine GOps.take rfl rfl ?_ ?_
    · simp; omega
    refine GOps.r rfl rfl rfl rfl (grd_move rfl rfl) ?_
    refine GOps.take rfl rfl ?_ ?_
    · simp; omega
    refine GOps.r rfl rfl rfl rfl (grd_geq rfl rfl rfl) ?_
    refine GOps.r rfl rfl rfl rfl (grd_pick_t rfl rfl ?_ rfl) ?_
    · exact decide_eq_true (by omega)
    refine GOps.r rfl rfl rfl rfl (grd_move rfl rfl) ?_
    refine GOps.split rfl rfl (fun b1 => ?_) (fun b1 => ?_)
    simp only [beq_true, beq_false, Bool.not_true, Bool.not_false, Bool.not_eq_true', Bool.not_eq_false', decide_eq_true_eq, decide_eq_false_iff_not] at b1
    refine GOps.take rfl rfl ?_ ?_
    · exact beq_iff_eq.2 (decide_eq_true (by assumption))
    refine GOps.r rfl rfl rfl rfl (grd_move rfl rfl) ?_
    refine GOps.take rfl rfl ?_ ?_
    · exact beq_iff_eq.2 (decide_eq_true (by assumption))
    refine GOps.r rfl rfl rfl rfl (grd_leq rfl rfl rfl) ?_
    refine GOps.r rfl rfl rfl rfl (grd_pick_t rfl rfl ?_ rfl) ?_
    · exact decide_eq_true (by assumption)
    refine GOps.r rfl rfl rfl rfl (grd_move rfl rfl) ?_
    refine GOps.split rfl rfl (fun b2 => ?_) (fun b2 => ?_)
    simp only [beq_true, beq_false, Bool.not_true, Bool.not_false, Bool.not_eq_true', Bool.not_eq_false', decide_eq_true_eq, decide_eq_false_iff_not] at b2
    refine GOps.take rfl rfl ?_ ?_
    · exact beq_iff_eq.2 (decide_eq_true (by assumption))
    refine GOps.r rfl rfl rfl rfl (grd_fieldAddr tab_is rfl rfl rfl rfl rfl) ?_
    refine GOps.take rfl rfl ?_ ?_
    · exact beq_iff_eq.2 (decide_eq_true (by assumption))
    focus
      refine GOps.r rfl rfl rfl rfl (grd_load1 (b := ?_) (v := ?_) tab_is rfl rfl rfl rfl ?_ ?_) ?_
      rotate_left 2
      refine (Hp.at_put_ne ?_).trans ?_
      · omega
      refine (Hp.at_put_ne ?_).trans ?_
      · omega
      refine (Hp.at_put_ne ?_).trans ?_
      · omega
      refine (Hp.at_put_ne ?_).trans ?_
      · omega
      refine (Hp.at_push_lt ?_).trans ?_
      · simp; done
      · exact Hp.at_push_eq
      · rfl
    refine GOps.take rfl rfl ?_ ?_
    · exact beq_iff_eq.2 (decide_eq_true (by assumption))
    refine GOps.r rfl rfl rfl rfl (grd_leq rfl rfl rfl) ?_
    refine GOps.r rfl rfl rfl rfl (grd_pick_t rfl rfl ?_ rfl) ?_
    · exact decide_eq_true (by assumption)
    refine GOps.r rfl rfl rfl rfl (grd_move rfl rfl) ?_
    refine GOps.split rfl rfl (fun b3 => ?_) (fun b3 => ?_)
    simp only [beq_true, beq_false, Bool.not_true, Bool.not_false, Bool.not_eq_true', Bool.not_eq_false', decide_eq_true_eq, decide_eq_false_iff_not] at b3
    refine GOps.take rfl rfl ?_ ?_
    · exact beq_iff_eq.2 (decide_eq_true (by assumption))
    refine GOps.r rfl rfl rfl rfl (grd_fieldAddr tab_is rfl rfl rfl rfl rfl) ?_
    refine GOps.take rfl rfl ?_ ?_
    · exact beq_iff_eq.2 (decide_eq_true (by assumption))
    focus
      refine GOps.r rfl rfl rfl rfl (grd_load1 (b := ?_) (v := ?_) tab_is rfl rfl rfl rfl ?_ ?_) ?_
      rotate_left 2
      refine (Hp.at_put_ne ?_).trans ?_
      · omega
      refine (Hp.at_put_ne ?_).trans ?_
      · omega
      refine (Hp.at_put_ne ?_).trans ?_
      · omega
      refine (Hp.at_put_ne ?_).trans ?_
      · omega
      refine (Hp.at_push_lt ?_).trans ?_
      · simp; done
      · exact Hp.at_push_eq
      · rfl
    refine GOps.take rfl rfl ?_ ?_
    · exact beq_iff_eq.2 (decide_eq_true (by assumption))
    refine GOps.r rfl rfl rfl rfl (grd_lenS tab_is rfl rfl rfl rfl rfl) ?_
    refine GOps.take rfl rfl ?_ ?_
    · exact beq_iff_eq.2 (decide_eq_true (by assumption))
    refine GOps.r rfl rfl rfl rfl (grd_move rfl rfl) ?_
    refine GOps.take rfl rfl ?_ ?_
    · exact beq_iff_eq.2 (decide_eq_true (by assumption))
    refine GOps.r rfl rfl rfl rfl (grd_mul64 rfl rfl rfl ?_) ?_
    · omega
    refine GOps.take rfl rfl ?_ ?_
    · exact beq_iff_eq.2 (decide_eq_true (by assumption))
    refine GOps.r rfl rfl rfl rfl (grd_eql rfl rfl rfl) ?_
    refine GOps.r rfl rfl rfl rfl (grd_pick_t rfl rfl ?_ rfl) ?_
    · exact decide_eq_true (by assumption)
    refine GOps.r rfl rfl rfl rfl (grd_assign rfl rfl) ?_
    refine GOps.nil ?_
    refine GWP.ret ?_
    refine ⟨_, .one rfl, ?_⟩
    refine ⟨?_, ?_⟩
    · exact vb_iff (by simp only [ByteArray.size, List.size_toArray]; omega)
    refine HExt.put ?_ ?_
    refine HExt.put ?_ ?_
    refine HExt.put ?_ ?_
    refine HExt.put ?_ ?_
    refine HExt.push ?_
    refine HExt.push ?_
    · exact HExt.refl _ _
    · exact .inr (by omega)
    · exact .inr (by omega)
    · exact .inr (by omega)
    · exact .inr (by omega)
    simp only [beq_true, beq_false, Bool.not_true, Bool.not_false, Bool.not_eq_true', Bool.not_eq_false', decide_eq_true_eq, decide_eq_false_iff_not] at b3
    refine GOps.no rfl ?_ rfl rfl ?_
    · exact beq_eq_false_iff_ne.2 (by rw [decide_eq_false (by assumption)]; decide)
    refine GOps.no rfl ?_ rfl rfl ?_
    · exact beq_eq_false_iff_ne.2 (by rw [decide_eq_false (by assumption)]; decide)
    refine GOps.no rfl ?_ rfl rfl ?_
    · exact beq_eq_false_iff_ne.2 (by rw [decide_eq_false (by assumption)]; decide)
    refine GOps.no rfl ?_ rfl rfl ?_
    · exact beq_eq_false_iff_ne.2 (by rw [decide_eq_false (by assumption)]; decide)
    refine GOps.no rfl ?_ rfl rfl ?_
    · exact beq_eq_false_iff_ne.2 (by rw [decide_eq_false (by assumption)]; decide)
    refine GOps.no rfl ?_ rfl rfl ?_
    · exact beq_eq_false_iff_ne.2 (by rw [decide_eq_false (by assumption)]; decide)
    refine GOps.r rfl rfl rfl rfl (grd_pick_f rfl rfl ?_ rfl) ?_
    · exact decide_eq_false (by assumption)
    refine GOps.r rfl rfl rfl rfl (grd_assign rfl rfl) ?_
    refine GOps.nil ?_
    refine GWP.ret ?_
    refine ⟨_, .one rfl, ?_⟩
    refine ⟨?_, ?_⟩
    · exact vb_f (by omega)
    refine HExt.put ?_ ?_
    refine HExt.put ?_ ?_
    refine HExt.put ?_ ?_
    refine HExt.put ?_ ?_
    refine HExt.push ?_
    refine HExt.push ?_
    · exact HExt.refl _ _
    · exact .inr (by omega)
    · exact .inr (by omega)
    · exact .inr (by omega)
    · exact .inr (by omega)
    simp only [beq_true, beq_false, Bool.not_true, Bool.not_false, Bool.not_eq_true', Bool.not_eq_false', decide_eq_true_eq, decide_eq_false_iff_not] at b2
    refine GOps.no rfl ?_ rfl rfl ?_
    · exact beq_eq_false_iff_ne.2 (by rw [decide_eq_false (by assumption)]; decide)
    refine GOps.no rfl ?_ rfl rfl ?_
    · exact beq_eq_false_iff_ne.2 (by rw [decide_eq_false (by assumption)]; decide)
    refine GOps.no rfl ?_ rfl rfl ?_
    · exact beq_eq_false_iff_ne.2 (by rw [decide_eq_false (by assumption)]; decide)
    refine GOps.r rfl rfl rfl rfl (grd_pick_f rfl rfl ?_ rfl) ?_
    · exact decide_eq_false (by assumption)
    refine GOps.r rfl rfl rfl rfl (grd_move rfl rfl) ?_
    refine GOps.no rfl ?_ rfl rfl ?_
    · simp; done
    refine GOps.no rfl ?_ rfl rfl ?_
    · simp; done
    refine GOps.no rfl ?_ rfl rfl ?_
    · simp; done
    refine GOps.no rfl ?_ rfl rfl ?_
    · simp; done
    refine GOps.no rfl ?_ rfl rfl ?_
    · simp; done
    refine GOps.no rfl ?_ rfl rfl ?_
    · simp; done
    refine GOps.r rfl rfl rfl rfl (grd_pick_f rfl rfl ?_ rfl) ?_
    · with_reducible rfl
    refine GOps.r rfl rfl rfl rfl (grd_assign rfl rfl) ?_
    refine GOps.nil ?_
    refine GWP.ret ?_
    refine ⟨_, .one rfl, ?_⟩
    refine ⟨?_, ?_⟩
    · exact vb_f (by omega)
    refine HExt.put ?_ ?_
    refine HExt.put ?_ ?_
    refine HExt.put ?_ ?_
    refine HExt.put ?_ ?_
    refine HExt.push ?_
    refine HExt.push ?_
    · exact HExt.refl _ _
    · exact .inr (by omega)
    · exact .inr (by omega)
    · exact .inr (by omega)
    · exact .inr (by omega)
    simp only [beq_true, beq_false, Bool.not_true, Bool.not_false, Bool.not_eq_true', Bool.not_eq_false', decide_eq_true_eq, decide_eq_false_iff_not] at b1
    refine GOps.no rfl ?_ rfl rfl ?_
    · exact beq_eq_false_iff_ne.2 (by rw [decide_eq_false (by assumption)]; decide)
    refine GOps.no rfl ?_ rfl rfl ?_
    · exact beq_eq_false_iff_ne.2 (by rw [decide_eq_false (by assumption)]; decide)
    refine GOps.r rfl rfl rfl rfl (grd_pick_f rfl rfl ?_ rfl) ?_
    · exact decide_eq_false (by assumption)
    refine GOps.r rfl rfl rfl rfl (grd_move rfl rfl) ?_
    refine GOps.no rfl ?_ rfl rfl ?_
    · simp; done
    refine GOps.no rfl ?_ rfl rfl ?_
    · simp; done
    refine GOps.no rfl ?_ rfl rfl ?_
    · simp; done
    refine GOps.r rfl rfl rfl rfl (grd_pick_f rfl rfl ?_ rfl) ?_
    · with_reducible rfl
    refine GOps.r rfl rfl rfl rfl (grd_move rfl rfl) ?_
    refine GOps.no rfl ?_ rfl rfl ?_
    · simp; done
    refine GOps.no rfl ?_ rfl rfl ?_
    · simp; done
    refine GOps.no rfl ?_ rfl rfl ?_
    · simp; done
    refine GOps.no rfl ?_ rfl rfl ?_
    · simp; done
    refine GOps.no rfl ?_ rfl rfl ?_
    · simp; done
    refine GOps.no rfl ?_ rfl rfl ?_
    · simp; done
    refine GOps.r rfl rfl rfl rfl (grd_pick_f rfl rfl ?_ rfl) ?_
    · with_reducible rfl
    refine GOps.r rfl rfl rfl rfl (grd_assign rfl rfl) ?_
    refine GOps.nil ?_
    refine GWP.ret ?_
    refine ⟨_, .one rfl, ?_⟩
    refine ⟨?_, ?_⟩
    · exact vb_f (by omega)
    refine HExt.put ?_ ?_
    refine HExt.put ?_ ?_
    refine HExt.put ?_ ?_
    refine HExt.put ?_ ?_
    refine HExt.push ?_
    refine HExt.push ?_
    · exact HExt.refl _ _
    · exact .inr (by omega)
    · exact .inr (by omega)
    · exact .inr (by omega)
    · exact .inr (by omega)
set_option maxHeartbeats 4000000 in
set_option maxRecDepth 100000 in
set_option linter.unusedSimpArgs false in
theorem g_right3 (H : Hp) (f t : Nat) (hf : f ≤ 255) (ht : t ≤ 256) : GCalls Try.prog 15 [recT 3 0 0 f t [] 0 0 0] [] H fun v H' => v = .bool (decide (f < t)) ∧ HExt [] H H' := by
  unfold recT
  refine GCalls.body tab_is Try.func15 rfl Try.results15 Try.ntmps15 (by simp) ?_ ?_
  · first | (intro _ h; cases h; done) | (simp; done) | (simp; omega) | (intro i hi; simp at hi; rcases hi with rfl | rfl <;> omega) | (intro i hi; simp at hi; rcases hi with rfl | rfl | rfl <;> omega)
  focus
    refine GWP.seq ?_
    refine GWP.region ?_
    focus
      refine GOps.w1 rfl rfl rfl rfl (gop_box' (id := ?_) ?_ rfl rfl rfl) ?_
      rotate_left 1
      · rfl
    refine GOps.r rfl rfl rfl rfl (grd_assign rfl rfl) ?_
    refine GOps.nil ?_
    refine GWP.seq ?_
    refine GWP.region ?_
    refine GOps.r rfl rfl rfl rfl (grd_fieldAddr tab_is rfl rfl rfl rfl rfl) ?_
    focus
      refine GOps.r rfl rfl rfl rfl (grd_load1 (b := ?_) (v := ?_) tab_is rfl rfl rfl rfl ?_ ?_) ?_
      rotate_left 2
      · exact Hp.at_push_eq
      · rfl
    focus
      refine GOps.r rfl rfl rfl rfl (grd_build (cs := ?_) tab_is rfl rfl rfl ?_ rfl ?_) ?_
      rotate_left 1
      · decide
      · simp [gfill, gsets, Value.cells]; rfl
    focus
      refine GOps.w1 rfl rfl rfl rfl (gop_alloc' (id := ?_) ?_ tab_is rfl rfl ?_) ?_
      rotate_left 1
      · simp; rfl
      · decide
    focus
      refine GOps.s rfl rfl rfl (gop_storeC (b := ?_) (cs := ?_) tab_is rfl rfl ?_ rfl rfl ?_ ?_ ?_ ?_ ?_ ?_) ?_
      rotate_left 2
      · rfl
      · rfl
      refine Hp.at_push_id ?_
      · simp; done
      · rfl
      · decide
      · exact .inr (by simp)
      · simp [splice, Value.cells]; rfl
    refine GOps.nil ?_
    refine GWP.seq ?_
    refine GWP.region ?_
    refine GOps.r rfl rfl rfl rfl (grd_assign rfl rfl) ?_
    refine GOps.nil ?_
    refine GWP.seq ?_
    refine GWP.seq ?_
    refine GWP.region ?_
    refine GOps.r rfl rfl rfl rfl (grd_fieldAddr tab_is rfl rfl rfl rfl rfl) ?_
    focus
      refine GOps.r rfl rfl rfl rfl (grd_load1 (b := ?_) (v := ?_) tab_is rfl rfl rfl rfl ?_ ?_) ?_
      rotate_left 2
      refine (Hp.at_put_ne ?_).trans ?_
      · omega
      refine (Hp.at_push_lt ?_).trans ?_
      · simp; done
      · exact Hp.at_push_eq
      · rfl
    refine GOps.nil ?_
    refine GWP.block ?_
    refine GWP.seq ?_
    refine GWP.region ?_
    refine GOps.r rfl rfl rfl rfl (grd_eql rfl rfl rfl) ?_
    refine GOps.r rfl rfl rfl rfl (grd_assign rfl rfl) ?_
    refine GOps.nil ?_
    refine GWP.cond_f rfl ?_ ?_
    · exact decide_eq_false (by omega)
    refine GWP.seq ?_
    refine GWP.region ?_
    refine GOps.r rfl rfl rfl rfl (grd_eql rfl rfl rfl) ?_
    refine GOps.r rfl rfl rfl rfl (grd_assign rfl rfl) ?_
    refine GOps.nil ?_
    refine GWP.cond_f rfl ?_ ?_
    · exact decide_eq_false (by omega)
    refine GWP.seq ?_
    refine GWP.region ?_
    refine GOps.r rfl rfl rfl rfl (grd_eql rfl rfl rfl) ?_
    refine GOps.r rfl rfl rfl rfl (grd_assign rfl rfl) ?_
    refine GOps.nil ?_
    refine GWP.cond_t rfl ?_ ?_
    · exact decide_eq_true (by omega)
    refine GWP.seq ?_
    refine GWP.region ?_
    refine GOps.r rfl rfl rfl rfl (grd_fieldAddr tab_is rfl rfl rfl rfl rfl) ?_
    focus
      refine GOps.r rfl rfl rfl rfl (grd_load1 (b := ?_) (v := ?_) tab_is rfl rfl rfl rfl ?_ ?_) ?_
      rotate_left 2
      refine (Hp.at_put_ne ?_).trans ?_
      · omega
      refine (Hp.at_push_lt ?_).trans ?_
      · simp; done
      · exact Hp.at_push_eq
      · rfl
    refine GOps.r rfl rfl rfl rfl (grd_fieldAddr tab_is rfl rfl rfl rfl rfl) ?_
    focus
      refine GOps.s rfl rfl rfl (gop_store1 (b := ?_) tab_is rfl rfl rfl rfl rfl rfl ?_ ?_ ?_ ?_) ?_
      rotate_left 1
      refine Hp.at_put_eq ?_
      · simp; done
      · rfl
      · decide
      · exact .inr (by simp)
    refine GOps.nil ?_
    refine GWP.seq ?_
    refine GWP.region ?_
    refine GOps.r rfl rfl rfl rfl (grd_fieldAddr tab_is rfl rfl rfl rfl rfl) ?_
    focus
      refine GOps.r rfl rfl rfl rfl (grd_load1 (b := ?_) (v := ?_) tab_is rfl rfl rfl rfl ?_ ?_) ?_
      rotate_left 2
      refine (Hp.at_put_ne ?_).trans ?_
      · omega
      refine (Hp.at_put_ne ?_).trans ?_
      · omega
      refine (Hp.at_push_lt ?_).trans ?_
      · simp; done
      · exact Hp.at_push_eq
      · rfl
    refine GOps.r rfl rfl rfl rfl (grd_fieldAddr tab_is rfl rfl rfl rfl rfl) ?_
    focus
      refine GOps.s rfl rfl rfl (gop_store1 (b := ?_) tab_is rfl rfl rfl rfl rfl rfl ?_ ?_ ?_ ?_) ?_
      rotate_left 1
      refine Hp.at_put_eq ?_
      · simp; done
      · rfl
      · exact Nat.le_of_ble_eq_true rfl
      · exact .inr (by simp)
    refine GOps.nil ?_
    refine GWP.seq ?_
    refine GWP.region ?_
    focus
      refine GOps.r rfl rfl rfl rfl (grd_loadNK (b := ?_) (cs := ?_) tab_is rfl rfl rfl rfl ?_ ?_ ?_) ?_
      rotate_left 2
      refine (Hp.at_put_ne ?_).trans ?_
      · omega
      refine (Hp.at_put_ne ?_).trans ?_
      · omega
      refine (Hp.at_put_ne ?_).trans ?_
      · omega
      refine (Hp.at_push_lt ?_).trans ?_
      · simp; done
      · exact Hp.at_push_eq
      · exact Nat.le_of_ble_eq_true rfl
      · simp [Value.cells]; rfl
    focus
      refine GOps.r rfl rfl rfl rfl (grd_loadNK (b := ?_) (cs := ?_) tab_is rfl rfl rfl rfl ?_ ?_ ?_) ?_
      rotate_left 2
      refine Hp.at_put_eq ?_
      · simp; done
      · exact Nat.le_of_ble_eq_true rfl
      · simp [Value.cells]; rfl
    focus
      refine GOps.r rfl rfl rfl rfl (grd_aeqlK (b := ?_) tab_is rfl rfl rfl rfl rfl rfl ?_ ?_ ?_) ?_
      rotate_left 1
      · rfl
      · rfl
      · simp [lEq, cEq]; rfl
    refine GOps.r rfl rfl rfl rfl (grd_move rfl rfl) ?_
    refine GOps.take rfl rfl ?_ ?_
    · simp; done
    refine GOps.r rfl rfl rfl rfl (grd_fieldAddr tab_is rfl rfl rfl rfl rfl) ?_
    refine GOps.take rfl rfl ?_ ?_
    · simp; done
    focus
      refine GOps.r rfl rfl rfl rfl (grd_load1 (b := ?_) (v := ?_) tab_is rfl rfl rfl rfl ?_ ?_) ?_
      rotate_left 2
      refine (Hp.at_put_ne ?_).trans ?_
      · omega
      refine (Hp.at_put_ne ?_).trans ?_
      · omega
      refine (Hp.at_put_ne ?_).trans ?_
      · omega
      refine (Hp.at_push_lt ?_).trans ?_
      · simp; done
      · exact Hp.at_push_eq
      · rfl
    refine GOps.take rfl rfl ?_ ?_
    · simp; done
    refine GOps.r rfl rfl rfl rfl (grd_geq rfl rfl rfl) ?_
    refine GOps.r rfl rfl rfl rfl (grd_pick_t rfl rfl ?_ rfl) ?_
    · with_reducible rfl
    refine GOps.r rfl rfl rfl rfl (grd_move rfl rfl) ?_
    refine GOps.take rfl rfl ?_ ?_
    · simp; done
    refine GOps.r rfl rfl rfl rfl (grd_fieldAddr tab_is rfl rfl rfl rfl rfl) ?_
    refine GOps.take rfl rfl ?_ ?_
    · simp; done
    focus
      refine GOps.r rfl rfl rfl rfl (grd_load1 (b := ?_) (v := ?_) tab_is rfl rfl rfl rfl ?_ ?_) ?_
      rotate_left 2
      refine (Hp.at_put_ne ?_).trans ?_
      · omega
      refine (Hp.at_put_ne ?_).trans ?_
      · omega
      refine (Hp.at_put_ne ?_).trans ?_
      · omega
      refine (Hp.at_push_lt ?_).trans ?_
      · simp; done
      · exact Hp.at_push_eq
      · rfl
    refine GOps.take rfl rfl ?_ ?_
    · simp; done
    refine GOps.r rfl rfl rfl rfl (grd_fieldAddr tab_is rfl rfl rfl rfl rfl) ?_
    refine GOps.take rfl rfl ?_ ?_
    · simp; done
    focus
      refine GOps.r rfl rfl rfl rfl (grd_load1 (b := ?_) (v := ?_) tab_is rfl rfl rfl rfl ?_ ?_) ?_
      rotate_left 2
      refine (Hp.at_put_ne ?_).trans ?_
      · omega
      refine (Hp.at_put_ne ?_).trans ?_
      · omega
      refine (Hp.at_put_ne ?_).trans ?_
      · omega
      refine (Hp.at_push_lt ?_).trans ?_
      · simp; done
      · exact Hp.at_push_eq
      · rfl
    refine GOps.take rfl rfl ?_ ?_
    · simp; done
    refine GOps.r rfl rfl rfl rfl (grd_lss rfl rfl rfl) ?_
    refine GOps.r rfl rfl rfl rfl (grd_pick_t rfl rfl ?_ rfl) ?_
    · exact decide_eq_true (by omega)
    refine GOps.r rfl rfl rfl rfl (grd_move rfl rfl) ?_
    refine GOps.split rfl rfl (fun c1 => ?_) (fun c1 => ?_)
    simp only [beq_true, beq_false, Bool.not_true, Bool.not_false, Bool.not_eq_true', Bool.not_eq_false', decide_eq_true_eq, decide_eq_false_iff_not] at c1
    refine GOps.take rfl rfl ?_ ?_
    · exact beq_iff_eq.2 (decide_eq_true (by assumption))
    refine GOps.r rfl rfl rfl rfl (grd_fieldAddr tab_is rfl rfl rfl rfl rfl) ?_
    refine GOps.take rfl rfl ?_ ?_
    · exact beq_iff_eq.2 (decide_eq_true (by assumption))
    focus
      refine GOps.r rfl rfl rfl rfl (grd_load1 (b := ?_) (v := ?_) tab_is rfl rfl rfl rfl ?_ ?_) ?_
      rotate_left 2
      refine (Hp.at_put_ne ?_).trans ?_
      · omega
      refine (Hp.at_put_ne ?_).trans ?_
      · omega
      refine (Hp.at_put_ne ?_).trans ?_
      · omega
      refine (Hp.at_push_lt ?_).trans ?_
      · simp; done
      · exact Hp.at_push_eq
      · rfl
    refine GOps.take rfl rfl ?_ ?_
    · exact beq_iff_eq.2 (decide_eq_true (by assumption))
    refine GOps.r rfl rfl rfl rfl (grd_leq rfl rfl rfl) ?_
    refine GOps.r rfl rfl rfl rfl (grd_pick_t rfl rfl ?_ rfl) ?_
    · exact decide_eq_true (by assumption)
    refine GOps.r rfl rfl rfl rfl (grd_assign rfl rfl) ?_
    refine GOps.nil ?_
    refine GWP.ret ?_
    refine ⟨_, .one rfl, ?_⟩
    refine ⟨?_, ?_⟩
    · exact vb_iff (by omega)
    refine HExt.put ?_ ?_
    refine HExt.put ?_ ?_
    refine HExt.put ?_ ?_
    refine HExt.push ?_
    refine HExt.push ?_
    · exact HExt.refl _ _
    · exact .inr (by omega)
    · exact .inr (by omega)
    · exact .inr (by omega)
    simp only [beq_true, beq_false, Bool.not_true, Bool.not_false, Bool.not_eq_true', Bool.not_eq_false', decide_eq_true_eq, decide_eq_false_iff_not] at c1
    refine GOps.no rfl ?_ rfl rfl ?_
    · exact beq_eq_false_iff_ne.2 (by rw [decide_eq_false (by assumption)]; decide)
    refine GOps.no rfl ?_ rfl rfl ?_
    · exact beq_eq_false_iff_ne.2 (by rw [decide_eq_false (by assumption)]; decide)
    refine GOps.no rfl ?_ rfl rfl ?_
    · exact beq_eq_false_iff_ne.2 (by rw [decide_eq_false (by assumption)]; decide)
    refine GOps.r rfl rfl rfl rfl (grd_pick_f rfl rfl ?_ rfl) ?_
    · exact decide_eq_false (by assumption)
    refine GOps.r rfl rfl rfl rfl (grd_assign rfl rfl) ?_
    refine GOps.nil ?_
    refine GWP.ret ?_
    refine ⟨_, .one rfl, ?_⟩
    refine ⟨?_, ?_⟩
    · exact vb_f (by omega)
    refine HExt.put ?_ ?_
    refine HExt.put ?_ ?_
    refine HExt.put ?_ ?_
    refine HExt.push ?_
    refine HExt.push ?_
    · exact HExt.refl _ _
    · exact .inr (by omega)
    · exact .inr (by omega)
    · exact .inr (by omega)
set_option maxHeartbeats 4000000 in
set_option maxRecDepth 100000 in
set_option linter.unusedSimpArgs false in
theorem g_right4 (H : Hp) (i b s : Nat) (hi : i ≤ 1099511627776) (hb : b ≤ 1099511627776) : GCalls Try.prog 15 [recT 4 0 0 0 0 [] i b s] [] H fun v H' => v = .bool (decide (s < 2305843009213693951)) ∧ HExt [] H H' := by
  unfold recT
  refine GCalls.body tab_is Try.func15 rfl Try.results15 Try.ntmps15 (by simp) ?_ ?_
  · first | (intro _ h; cases h; done) | (simp; done) | (simp; omega) | (intro i hi; simp at hi; rcases hi with rfl | rfl <;> omega) | (intro i hi; simp at hi; rcases hi with rfl | rfl | rfl <;> omega)
  focus
    refine GWP.seq ?_
    refine GWP.region ?_
    focus
      refine GOps.w1 rfl rfl rfl rfl (gop_box' (id := ?_) ?_ rfl rfl rfl) ?_
      rotate_left 1
      · rfl
    refine GOps.r rfl rfl rfl rfl (grd_assign rfl rfl) ?_
    refine GOps.nil ?_
    refine GWP.seq ?_
    refine GWP.region ?_
    refine GOps.r rfl rfl rfl rfl (grd_fieldAddr tab_is rfl rfl rfl rfl rfl) ?_
    focus
      refine GOps.r rfl rfl rfl rfl (grd_load1 (b := ?_) (v := ?_) tab_is rfl rfl rfl rfl ?_ ?_) ?_
      rotate_left 2
      · exact Hp.at_push_eq
      · rfl
    focus
      refine GOps.r rfl rfl rfl rfl (grd_build (cs := ?_) tab_is rfl rfl rfl ?_ rfl ?_) ?_
      rotate_left 1
      · decide
      · simp [gfill, gsets, Value.cells]; rfl
    focus
      refine GOps.w1 rfl rfl rfl rfl (gop_alloc' (id := ?_) ?_ tab_is rfl rfl ?_) ?_
      rotate_left 1
      · simp; rfl
      · decide
    focus
      refine GOps.s rfl rfl rfl (gop_storeC (b := ?_) (cs := ?_) tab_is rfl rfl ?_ rfl rfl ?_ ?_ ?_ ?_ ?_ ?_) ?_
      rotate_left 2
      · rfl
      · rfl
      refine Hp.at_push_id ?_
      · simp; done
      · rfl
      · decide
      · exact .inr (by simp)
      · simp [splice, Value.cells]; rfl
    refine GOps.nil ?_
    refine GWP.seq ?_
    refine GWP.region ?_
    refine GOps.r rfl rfl rfl rfl (grd_assign rfl rfl) ?_
    refine GOps.nil ?_
    refine GWP.seq ?_
    refine GWP.seq ?_
    refine GWP.region ?_
    refine GOps.r rfl rfl rfl rfl (grd_fieldAddr tab_is rfl rfl rfl rfl rfl) ?_
    focus
      refine GOps.r rfl rfl rfl rfl (grd_load1 (b := ?_) (v := ?_) tab_is rfl rfl rfl rfl ?_ ?_) ?_
      rotate_left 2
      refine (Hp.at_put_ne ?_).trans ?_
      · omega
      refine (Hp.at_push_lt ?_).trans ?_
      · simp; done
      · exact Hp.at_push_eq
      · rfl
    refine GOps.nil ?_
    refine GWP.block ?_
    refine GWP.seq ?_
    refine GWP.region ?_
    refine GOps.r rfl rfl rfl rfl (grd_eql rfl rfl rfl) ?_
    refine GOps.r rfl rfl rfl rfl (grd_assign rfl rfl) ?_
    refine GOps.nil ?_
    refine GWP.cond_f rfl ?_ ?_
    · exact decide_eq_false (by omega)
    refine GWP.seq ?_
    refine GWP.region ?_
    refine GOps.r rfl rfl rfl rfl (grd_eql rfl rfl rfl) ?_
    refine GOps.r rfl rfl rfl rfl (grd_assign rfl rfl) ?_
    refine GOps.nil ?_
    refine GWP.cond_f rfl ?_ ?_
    · exact decide_eq_false (by omega)
    refine GWP.seq ?_
    refine GWP.region ?_
    refine GOps.r rfl rfl rfl rfl (grd_eql rfl rfl rfl) ?_
    refine GOps.r rfl rfl rfl rfl (grd_assign rfl rfl) ?_
    refine GOps.nil ?_
    refine GWP.cond_f rfl ?_ ?_
    · exact decide_eq_false (by omega)
    refine GWP.seq ?_
    refine GWP.region ?_
    refine GOps.r rfl rfl rfl rfl (grd_eql rfl rfl rfl) ?_
    refine GOps.r rfl rfl rfl rfl (grd_assign rfl rfl) ?_
    refine GOps.nil ?_
    refine GWP.cond_t rfl ?_ ?_
    · exact decide_eq_true (by omega)
    refine GWP.seq ?_
    refine GWP.region ?_
    refine GOps.r rfl rfl rfl rfl (grd_fieldAddr tab_is rfl rfl rfl rfl rfl) ?_
    focus
      refine GOps.r rfl rfl rfl rfl (grd_load1 (b := ?_) (v := ?_) tab_is rfl rfl rfl rfl ?_ ?_) ?_
      rotate_left 2
      refine (Hp.at_put_ne ?_).trans ?_
      · omega
      refine (Hp.at_push_lt ?_).trans ?_
      · simp; done
      · exact Hp.at_push_eq
      · rfl
    refine GOps.r rfl rfl rfl rfl (grd_fieldAddr tab_is rfl rfl rfl rfl rfl) ?_
    focus
      refine GOps.s rfl rfl rfl (gop_store1 (b := ?_) tab_is rfl rfl rfl rfl rfl rfl ?_ ?_ ?_ ?_) ?_
      rotate_left 1
      refine Hp.at_put_eq ?_
      · simp; done
      · rfl
      · decide
      · exact .inr (by simp)
    refine GOps.nil ?_
    refine GWP.seq ?_
    refine GWP.region ?_
    refine GOps.r rfl rfl rfl rfl (grd_fieldAddr tab_is rfl rfl rfl rfl rfl) ?_
    focus
      refine GOps.r rfl rfl rfl rfl (grd_load1 (b := ?_) (v := ?_) tab_is rfl rfl rfl rfl ?_ ?_) ?_
      rotate_left 2
      refine (Hp.at_put_ne ?_).trans ?_
      · omega
      refine (Hp.at_put_ne ?_).trans ?_
      · omega
      refine (Hp.at_push_lt ?_).trans ?_
      · simp; done
      · exact Hp.at_push_eq
      · rfl
    refine GOps.r rfl rfl rfl rfl (grd_fieldAddr tab_is rfl rfl rfl rfl rfl) ?_
    focus
      refine GOps.s rfl rfl rfl (gop_store1 (b := ?_) tab_is rfl rfl rfl rfl rfl rfl ?_ ?_ ?_ ?_) ?_
      rotate_left 1
      refine Hp.at_put_eq ?_
      · simp; done
      · rfl
      · exact Nat.le_of_ble_eq_true rfl
      · exact .inr (by simp)
    refine GOps.nil ?_
    refine GWP.seq ?_
    refine GWP.region ?_
    refine GOps.r rfl rfl rfl rfl (grd_fieldAddr tab_is rfl rfl rfl rfl rfl) ?_
    focus
      refine GOps.r rfl rfl rfl rfl (grd_load1 (b := ?_) (v := ?_) tab_is rfl rfl rfl rfl ?_ ?_) ?_
      rotate_left 2
      refine (Hp.at_put_ne ?_).trans ?_
      · omega
      refine (Hp.at_put_ne ?_).trans ?_
      · omega
      refine (Hp.at_put_ne ?_).trans ?_
      · omega
      refine (Hp.at_push_lt ?_).trans ?_
      · simp; done
      · exact Hp.at_push_eq
      · rfl
    refine GOps.r rfl rfl rfl rfl (grd_fieldAddr tab_is rfl rfl rfl rfl rfl) ?_
    focus
      refine GOps.s rfl rfl rfl (gop_store1 (b := ?_) tab_is rfl rfl rfl rfl rfl rfl ?_ ?_ ?_ ?_) ?_
      rotate_left 1
      refine Hp.at_put_eq ?_
      · simp; done
      · rfl
      · exact Nat.le_of_ble_eq_true rfl
      · exact .inr (by simp)
    refine GOps.nil ?_
    refine GWP.seq ?_
    refine GWP.region ?_
    focus
      refine GOps.r rfl rfl rfl rfl (grd_loadNK (b := ?_) (cs := ?_) tab_is rfl rfl rfl rfl ?_ ?_ ?_) ?_
      rotate_left 2
      refine (Hp.at_put_ne ?_).trans ?_
      · omega
      refine (Hp.at_put_ne ?_).trans ?_
      · omega
      refine (Hp.at_put_ne ?_).trans ?_
      · omega
      refine (Hp.at_put_ne ?_).trans ?_
      · omega
      refine (Hp.at_push_lt ?_).trans ?_
      · simp; done
      · exact Hp.at_push_eq
      · exact Nat.le_of_ble_eq_true rfl
      · simp [Value.cells]; rfl
    focus
      refine GOps.r rfl rfl rfl rfl (grd_loadNK (b := ?_) (cs := ?_) tab_is rfl rfl rfl rfl ?_ ?_ ?_) ?_
      rotate_left 2
      refine Hp.at_put_eq ?_
      · simp; done
      · exact Nat.le_of_ble_eq_true rfl
      · simp [Value.cells]; rfl
    focus
      refine GOps.r rfl rfl rfl rfl (grd_aeqlK (b := ?_) tab_is rfl rfl rfl rfl rfl rfl ?_ ?_ ?_) ?_
      rotate_left 1
      · rfl
      · rfl
      · simp [lEq, cEq]; rfl
    refine GOps.r rfl rfl rfl rfl (grd_move rfl rfl) ?_
    refine GOps.take rfl rfl ?_ ?_
    · simp; done
    refine GOps.r rfl rfl rfl rfl (grd_fieldAddr tab_is rfl rfl rfl rfl rfl) ?_
    refine GOps.take rfl rfl ?_ ?_
    · simp; done
    focus
      refine GOps.r rfl rfl rfl rfl (grd_load1 (b := ?_) (v := ?_) tab_is rfl rfl rfl rfl ?_ ?_) ?_
      rotate_left 2
      refine (Hp.at_put_ne ?_).trans ?_
      · omega
      refine (Hp.at_put_ne ?_).trans ?_
      · omega
      refine (Hp.at_put_ne ?_).trans ?_
      · omega
      refine (Hp.at_put_ne ?_).trans ?_
      · omega
      refine (Hp.at_push_lt ?_).trans ?_
      · simp; done
      · exact Hp.at_push_eq
      · rfl
    refine GOps.take rfl rfl ?_ ?_
    · simp; done
    refine GOps.r rfl rfl rfl rfl (grd_geq rfl rfl rfl) ?_
    refine GOps.r rfl rfl rfl rfl (grd_pick_t rfl rfl ?_ rfl) ?_
    · with_reducible rfl
    refine GOps.r rfl rfl rfl rfl (grd_move rfl rfl) ?_
    refine GOps.take rfl rfl ?_ ?_
    · simp; done
    refine GOps.r rfl rfl rfl rfl (grd_fieldAddr tab_is rfl rfl rfl rfl rfl) ?_
    refine GOps.take rfl rfl ?_ ?_
    · simp; done
    focus
      refine GOps.r rfl rfl rfl rfl (grd_load1 (b := ?_) (v := ?_) tab_is rfl rfl rfl rfl ?_ ?_) ?_
      rotate_left 2
      refine (Hp.at_put_ne ?_).trans ?_
      · omega
      refine (Hp.at_put_ne ?_).trans ?_
      · omega
      refine (Hp.at_put_ne ?_).trans ?_
      · omega
      refine (Hp.at_put_ne ?_).trans ?_
      · omega
      refine (Hp.at_push_lt ?_).trans ?_
      · simp; done
      · exact Hp.at_push_eq
      · rfl
    refine GOps.take rfl rfl ?_ ?_
    · simp; done
    refine GOps.r rfl rfl rfl rfl (grd_move rfl rfl) ?_
    refine GOps.take rfl rfl ?_ ?_
    · simp; done
    refine GOps.r rfl rfl rfl rfl (grd_leq rfl rfl rfl) ?_
    refine GOps.r rfl rfl rfl rfl (grd_pick_t rfl rfl ?_ rfl) ?_
    · exact decide_eq_true (by omega)
    refine GOps.r rfl rfl rfl rfl (grd_move rfl rfl) ?_
    refine GOps.take rfl rfl ?_ ?_
    · simp; omega
    refine GOps.r rfl rfl rfl rfl (grd_fieldAddr tab_is rfl rfl rfl rfl rfl) ?_
    refine GOps.take rfl rfl ?_ ?_
    · simp; omega
    focus
      refine GOps.r rfl rfl rfl rfl (grd_load1 (b := ?_) (v := ?_) tab_is rfl rfl rfl rfl ?_ ?_) ?_
      rotate_left 2
      refine (Hp.at_put_ne ?_).trans ?_
      · omega
      refine (Hp.at_put_ne ?_).trans ?_
      · omega
      refine (Hp.at_put_ne ?_).trans ?_
      · omega
      refine (Hp.at_put_ne ?_).trans ?_
      · omega
      refine (Hp.at_push_lt ?_).trans ?_
      · simp; done
      · exact Hp.at_push_eq
      · rfl
    refine GOps.take rfl rfl ?_ ?_
    · simp; omega
    refine GOps.r rfl rfl rfl rfl (grd_move rfl rfl) ?_
    refine GOps.take rfl rfl ?_ ?_
    · simp; omega
    refine GOps.r rfl rfl rfl rfl (grd_conv_in tab_is rfl rfl rfl rfl rfl ?_) ?_
    · refine wrap_u64_in ?_; omega
    refine GOps.take rfl rfl ?_ ?_
    · simp; omega
    refine GOps.r rfl rfl rfl rfl (grd_leq rfl rfl rfl) ?_
    refine GOps.r rfl rfl rfl rfl (grd_pick_t rfl rfl ?_ rfl) ?_
    · exact decide_eq_true (by omega)
    refine GOps.r rfl rfl rfl rfl (grd_move rfl rfl) ?_
    refine GOps.take rfl rfl ?_ ?_
    · simp; omega
    refine GOps.r rfl rfl rfl rfl (grd_fieldAddr tab_is rfl rfl rfl rfl rfl) ?_
    refine GOps.take rfl rfl ?_ ?_
    · simp; omega
    focus
      refine GOps.r rfl rfl rfl rfl (grd_load1 (b := ?_) (v := ?_) tab_is rfl rfl rfl rfl ?_ ?_) ?_
      rotate_left 2
      refine (Hp.at_put_ne ?_).trans ?_
      · omega
      refine (Hp.at_put_ne ?_).trans ?_
      · omega
      refine (Hp.at_put_ne ?_).trans ?_
      · omega
      refine (Hp.at_put_ne ?_).trans ?_
      · omega
      refine (Hp.at_push_lt ?_).trans ?_
      · simp; done
      · exact Hp.at_push_eq
      · rfl
    refine GOps.take rfl rfl ?_ ?_
    · simp; omega
    refine GOps.r rfl rfl rfl rfl (grd_lss rfl rfl rfl) ?_
    refine GOps.r rfl rfl rfl rfl (grd_pick_t rfl rfl ?_ rfl) ?_
    · exact decide_eq_true (by omega)
    refine GOps.r rfl rfl rfl rfl (grd_assign rfl rfl) ?_
    refine GOps.nil ?_
    refine GWP.ret ?_
    refine ⟨_, .one rfl, ?_⟩
    refine ⟨?_, ?_⟩
    · exact vb_iff (by omega)
    refine HExt.put ?_ ?_
    refine HExt.put ?_ ?_
    refine HExt.put ?_ ?_
    refine HExt.put ?_ ?_
    refine HExt.push ?_
    refine HExt.push ?_
    · exact HExt.refl _ _
    · exact .inr (by omega)
    · exact .inr (by omega)
    · exact .inr (by omega)
    · exact .inr (by omega)
set_option maxHeartbeats 4000000 in
set_option maxRecDepth 100000 in
set_option linter.unusedSimpArgs false in
theorem g_right5 (H : Hp) (k : UInt8) (hk : k.toNat = 0 ∨ 4 < k.toNat) : GCalls Try.prog 15 [recT (k.toNat : Int) 0 0 0 0 [] 0 0 0] [] H fun v H' => v = .bool false ∧ HExt [] H H' := by
  unfold recT
  refine GCalls.body tab_is Try.func15 rfl Try.results15 Try.ntmps15 (by simp) ?_ ?_
  · first | (intro _ h; cases h; done) | (simp; done) | (simp; omega) | (intro i hi; simp at hi; rcases hi with rfl | rfl <;> omega) | (intro i hi; simp at hi; rcases hi with rfl | rfl | rfl <;> omega)
  focus
    refine GWP.seq ?_
    refine GWP.region ?_
    focus
      refine GOps.w1 rfl rfl rfl rfl (gop_box' (id := ?_) ?_ rfl rfl rfl) ?_
      rotate_left 1
      · rfl
    refine GOps.r rfl rfl rfl rfl (grd_assign rfl rfl) ?_
    refine GOps.nil ?_
    refine GWP.seq ?_
    refine GWP.region ?_
    refine GOps.r rfl rfl rfl rfl (grd_fieldAddr tab_is rfl rfl rfl rfl rfl) ?_
    focus
      refine GOps.r rfl rfl rfl rfl (grd_load1 (b := ?_) (v := ?_) tab_is rfl rfl rfl rfl ?_ ?_) ?_
      rotate_left 2
      · exact Hp.at_push_eq
      · rfl
    focus
      refine GOps.r rfl rfl rfl rfl (grd_build (cs := ?_) tab_is rfl rfl rfl ?_ rfl ?_) ?_
      rotate_left 1
      · decide
      · simp [gfill, gsets, Value.cells]; rfl
    focus
      refine GOps.w1 rfl rfl rfl rfl (gop_alloc' (id := ?_) ?_ tab_is rfl rfl ?_) ?_
      rotate_left 1
      · simp; rfl
      · decide
    focus
      refine GOps.s rfl rfl rfl (gop_storeC (b := ?_) (cs := ?_) tab_is rfl rfl ?_ rfl rfl ?_ ?_ ?_ ?_ ?_ ?_) ?_
      rotate_left 2
      · rfl
      · rfl
      refine Hp.at_push_id ?_
      · simp; done
      · rfl
      · exact Nat.le_of_ble_eq_true rfl
      · exact .inr (by simp)
      · simp [splice, Value.cells]; rfl
    refine GOps.nil ?_
    refine GWP.seq ?_
    refine GWP.region ?_
    refine GOps.r rfl rfl rfl rfl (grd_assign rfl rfl) ?_
    refine GOps.nil ?_
    refine GWP.seq ?_
    refine GWP.seq ?_
    refine GWP.region ?_
    refine GOps.r rfl rfl rfl rfl (grd_fieldAddr tab_is rfl rfl rfl rfl rfl) ?_
    focus
      refine GOps.r rfl rfl rfl rfl (grd_load1 (b := ?_) (v := ?_) tab_is rfl rfl rfl rfl ?_ ?_) ?_
      rotate_left 2
      refine (Hp.at_put_ne ?_).trans ?_
      · omega
      refine (Hp.at_push_lt ?_).trans ?_
      · simp; done
      · exact Hp.at_push_eq
      · rfl
    refine GOps.nil ?_
    refine GWP.block ?_
    refine GWP.seq ?_
    refine GWP.region ?_
    refine GOps.r rfl rfl rfl rfl (grd_eql rfl rfl rfl) ?_
    refine GOps.r rfl rfl rfl rfl (grd_assign rfl rfl) ?_
    refine GOps.nil ?_
    refine GWP.cond_f rfl ?_ ?_
    · exact decide_eq_false (by omega)
    refine GWP.seq ?_
    refine GWP.region ?_
    refine GOps.r rfl rfl rfl rfl (grd_eql rfl rfl rfl) ?_
    refine GOps.r rfl rfl rfl rfl (grd_assign rfl rfl) ?_
    refine GOps.nil ?_
    refine GWP.cond_f rfl ?_ ?_
    · exact decide_eq_false (by omega)
    refine GWP.seq ?_
    refine GWP.region ?_
    refine GOps.r rfl rfl rfl rfl (grd_eql rfl rfl rfl) ?_
    refine GOps.r rfl rfl rfl rfl (grd_assign rfl rfl) ?_
    refine GOps.nil ?_
    refine GWP.cond_f rfl ?_ ?_
    · exact decide_eq_false (by omega)
    refine GWP.seq ?_
    refine GWP.region ?_
    refine GOps.r rfl rfl rfl rfl (grd_eql rfl rfl rfl) ?_
    refine GOps.r rfl rfl rfl rfl (grd_assign rfl rfl) ?_
    refine GOps.nil ?_
    refine GWP.cond_f rfl ?_ ?_
    · exact decide_eq_false (by omega)
    refine GWP.skip ?_
    refine GWP.seq ?_
    refine GWP.region ?_
    refine GOps.r rfl rfl rfl rfl (grd_assign rfl rfl) ?_
    refine GOps.nil ?_
    refine GWP.ret ?_
    refine ⟨_, .one rfl, ?_⟩
    refine ⟨?_, ?_⟩
    · rfl
    refine HExt.put ?_ ?_
    refine HExt.push ?_
    refine HExt.push ?_
    · exact HExt.refl _ _
    · exact .inr (by omega)
end Go.Proofs.Ytjlimdiimdihfaa

/- The ghost walk: regions that draw their order, of which the last operations come last. Over any program. -/
namespace Go.Proofs.Ytjlimdiimdihfaa
open Go.RowKit

theorem still_of_quiet {P : Program} {ops : Array Oper} {w : World} {K : Act → Prop} : ∀ (l : List Oper) (a : Act), wpQuiet P ops (fun x => x = w) K l a → wpStill P ops w K l a
  | [], _, h => h
  | o :: l, a, h => by
    unfold wpQuiet at h
    unfold wpStill
    split at h
    · rename_i hw
      rw [if_pos hw]
      obtain ⟨v, hv, hk⟩ := h
      have h1 := hv w rfl
      unfold Oper.quietAt at h1
      unfold Oper.still
      have ih := still_of_quiet l _ hk
      revert h1
      generalize (execOp a.eval o).run P w = r
      intro h1
      unfold Oper.quietUpon at h1
      unfold Oper.stillUpon
      split at h1
      · obtain ⟨rfl, rfl⟩ := h1
        exact ⟨rfl, ih⟩
      · obtain ⟨rfl, rfl⟩ := h1
        exact ⟨rfl, ih⟩
      · obtain ⟨rfl, h2⟩ := h1
        exact ⟨rfl, v, h2, ih⟩
      · exact h1.elim
    · rename_i hw
      rw [if_neg hw]
      exact still_of_quiet l _ h
theorem GWP.drawT {P : Program} {N : Nat} {C : Ctx} {Q : Exit → Env → Hp → Prop} {env : Env} {H : Hp} {id : Nat} {l : List Oper} (n : Nat) {L M : List Oper} (hm : P.follows .mixedOrders = true) (hB : Region.lexTailB .any l.toArray n = true) (hL : l.take n = L) (hM : l.drop n = M)
    (h : GQ P N C l.toArray true [] (fun env' => GOps P N C l.toArray Q M env' H) L env H) : GWP P N C (.region id l.toArray true) Q env H := fun w0 Fr μ0 μ a w hs' he => by
  subst hL hM
  have hs2 : Sim C w0 Fr μ0 μ H w.drew := ⟨hs'.h.drew, hs'.ext, hs'.frm.drew, hs'.old, hs'.new, hs'.len, hs'.back⟩
  exact wp_region_still_tail n hm hB (still_of_quiet _ _ (h w0 Fr μ0 μ a w.drew _ hs2 he fun env' a' he' hk => hk w0 Fr μ0 μ a' w.drew hs2 he'))
theorem GPcs.sto {P : Program} {N : Nat} {C : Ctx} {Q : Exit → Env → Hp → Prop} {env : Env} {H : Hp} {ops : Array Oper} {tl : Bool} {Prt : List Nat} {o : Oper} {segs : List Seg} {i j : Nat} {b : Bool} {v0 : Value} {H0 : Hp} (tl2 : Bool) (Prt2 : List Nat) (ho : ops[i]? = some o) (hw : gwant ops env o = some b) (hb : b = true) (hd : o.dst = none) (h : GOp P ⟨[j], H.length⟩ o env H (fun v H' => v = v0 ∧ H' = H0))
    (htl : tl = false) (hF : ∀ q ∈ [j], ∃ c, H.at q = some c ∧ c.rw = true) (hm : C.may j) (hP : ∀ q ∈ Prt, (∃ c, H.at q = some c) ∧ q ∉ [j]) (hP2 : ∀ q ∈ Prt, q ∈ Prt2)
    (hp : ∀ q ∈ Prt2, q < H0.length) (k : GPcs P N C ops Q tl2 Prt2 segs env H0) : GPcs P N C ops Q tl Prt (.write i :: segs) env H := fun w0 Fr μ0 μ a w hs he hpp => by
  subst htl
  obtain ⟨c0, hc0, hrw0⟩ := hF j (by simp)
  refine wpPcs_write ho fun K hK => ?_
  rw [gwant_real he hw, if_pos hb]
  refine (GOpF.of (C := C) [j] (fun q hq => by rw [List.mem_singleton.1 hq]; exact Hp.at_lt hc0) (fun q hq => by rw [List.mem_singleton.1 hq]; exact hm) h) N w0 Fr μ0 μ a w K _ hs he fun v rv H' w' μ' hR hs' hx hv hfr hl hbk => ?_
  obtain ⟨rfl, rfl⟩ := hR
  have hfar : ∀ q ∈ Prt, ∀ L, μ q = some L → w'.heap[L.g]? = w.heap[L.g]? := fun q hq L hL => by
    obtain ⟨⟨c, hc⟩, hjF⟩ := hP q hq
    refine hfr.block _ (hs.h.len q L hL).2 fun hm => ?_
    obtain ⟨r, M, q1, q2, q3⟩ := img_mem hm
    obtain ⟨c', hc', hrw⟩ := hF r q1
    have := hs.h.inj r q c' c M L hc' hc q2 hL q3 (.inl hrw)
    subst this
    exact hjF q1
  have hsub : ∀ x, Cl μ' Prt2 w' x → Cl μ Prt w x := fun x hx2 q hq L hL => (hx2 q (hP2 q hq) L (hx q L hL)).trans (hfar q hq L hL)
  have hER := he.mono hx
  have ha : a.put o.dst rv = a := by rw [hd]; rfl
  rw [ha]
  refine hK (Cw tl2 μ' Prt2 w') _ w' (fun x hx2 => ?_) (Cw.self _ _ _ _) (k w0 Fr μ0 μ' _ w' hs' hER hp)
  show Cl μ Prt w x
  cases tl2 with
  | true =>
    obtain rfl : x = w' := hx2
    exact hfar
  | false => exact hsub x hx2
end Go.Proofs.Ytjlimdiimdihfaa
