/- Records: alike or not. -/
import Derived.Test.YtjlimdiimdihfaaBs
import Derived.Test.YtjlimdiimdihfaaGtab
namespace Go.Proofs.Ytjlimdiimdihfaa
open Go.RowKit

/-- A record. -/
structure RecS where
  kind : Int
  id : Int
  base : Int
  fr : Int
  to : Int
  blocks : List UInt8
  count : Int
  len : Int
  sum : Int
  deriving DecidableEq
def RecS.val (r : RecS) (s : Value) : Value := .agg #[.int .u8 r.kind, .int .i64 r.id, .int .i64 r.base, .int .i64 r.fr, .int .i64 r.to, s, .int .i64 r.count, .int .u64 r.len, .int .u64 r.sum]
def RecS.same (a b : RecS) : Bool := decide (a = b)
theorem RecS.same_self (r : RecS) : r.same r = true := decide_eq_true rfl
theorem RecS.same_chain (r q : RecS) : (r.same q == (r.kind == q.kind && (r.id == q.id && (r.base == q.base && (r.fr == q.fr && (r.to == q.to && (r.blocks == q.blocks && (r.count == q.count && (r.len == q.len && r.sum == q.sum))))))))) = true := by
  obtain ⟨k1, i1, b1, f1, t1, L, c1, l1, s1⟩ := r
  obtain ⟨k2, i2, b2, f2, t2, M, c2, l2, s2⟩ := q
  rw [beq_iff_eq, Bool.eq_iff_iff]
  simp [RecS.same]
set_option maxHeartbeats 4000000 in
set_option maxRecDepth 100000 in
set_option linter.unusedSimpArgs false in
theorem g_rsame (H : Hp) (r q : RecS) (p1 p2 : Option Addr) (m n cm cn : Nat) (hL : BS H (.slice p1 m cm) r.blocks) (hM : BS H (.slice p2 n cn) q.blocks) :
    GCalls Try.prog 19 [.agg #[.int .u8 r.kind, .int .i64 r.id, .int .i64 r.base, .int .i64 r.fr, .int .i64 r.to, .slice p1 m cm, .int .i64 r.count, .int .u64 r.len, .int .u64 r.sum], .agg #[.int .u8 q.kind, .int .i64 q.id, .int .i64 q.base, .int .i64 q.fr, .int .i64 q.to, .slice p2 n cn, .int .i64 q.count, .int .u64 q.len, .int .u64 q.sum]] [] H fun v H' => v = .bool (r.same q) ∧ HExt [] H H' := by
  obtain ⟨k1, i1, b1, f1, t1, L, c1, l1, s1⟩ := r
  obtain ⟨k2, i2, b2, f2, t2, M, c2, l2, s2⟩ := q
  simp only [RecS.same]
  refine GCalls.body tab_is Try.func19 rfl Try.results19 Try.ntmps19 (by simp) ?_ ?_
  · first | (intro _ h; cases h; done) | (simp; done) | (simp; omega) | (intro i hi; simp at hi; rcases hi with rfl | rfl <;> omega) | (intro i hi; simp at hi; rcases hi with rfl | rfl | rfl <;> omega)
  focus
    refine GWP.seq ?_
    refine GWP.region ?_
    focus
      refine GOps.w1 rfl rfl rfl rfl (gop_box' (id := ?_) ?_ rfl rfl rfl) ?_
      rotate_left 1
      · rfl
    focus
      refine GOps.w1 rfl rfl rfl rfl (gop_box' (id := ?_) ?_ rfl rfl rfl) ?_
      rotate_left 1
      · simp; rfl
    refine GOps.r rfl rfl rfl rfl (grd_assign rfl rfl) ?_
    refine GOps.nil ?_
    refine GWP.seq ?_
    refine GWP.region ?_
    refine GOps.r rfl rfl rfl rfl (grd_fieldAddr tab_is rfl rfl rfl rfl rfl) ?_
    focus
      refine GOps.r rfl rfl rfl rfl (grd_load1 (b := ?_) (v := ?_) tab_is rfl rfl rfl rfl ?_ ?_) ?_
      rotate_left 2
      refine (Hp.at_push_lt ?_).trans ?_
      · simp; done
      · exact Hp.at_push_eq
      · rfl
    refine GOps.r rfl rfl rfl rfl (grd_fieldAddr tab_is rfl rfl rfl rfl rfl) ?_
    focus
      refine GOps.r rfl rfl rfl rfl (grd_load1 (b := ?_) (v := ?_) tab_is rfl rfl rfl rfl ?_ ?_) ?_
      rotate_left 2
      refine Hp.at_push_id ?_
      · simp; done
      · rfl
    refine GOps.r rfl rfl rfl rfl (grd_eql rfl rfl rfl) ?_
    refine GOps.r rfl rfl rfl rfl (grd_move rfl rfl) ?_
    refine GOps.split rfl rfl (fun a1 => ?_) (fun a1 => ?_)
    simp only [beq_true, beq_false, Bool.not_true, Bool.not_false, Bool.not_eq_true', Bool.not_eq_false', decide_eq_true_eq, decide_eq_false_iff_not] at a1
    refine GOps.take rfl rfl ?_ ?_
    · simp; omega
    refine GOps.r rfl rfl rfl rfl (grd_fieldAddr tab_is rfl rfl rfl rfl rfl) ?_
    refine GOps.take rfl rfl ?_ ?_
    · simp; omega
    focus
      refine GOps.r rfl rfl rfl rfl (grd_load1 (b := ?_) (v := ?_) tab_is rfl rfl rfl rfl ?_ ?_) ?_
      rotate_left 2
      refine (Hp.at_push_lt ?_).trans ?_
      · simp; done
      · exact Hp.at_push_eq
      · rfl
    refine GOps.take rfl rfl ?_ ?_
    · simp; omega
    refine GOps.r rfl rfl rfl rfl (grd_fieldAddr tab_is rfl rfl rfl rfl rfl) ?_
    refine GOps.take rfl rfl ?_ ?_
    · simp; omega
    focus
      refine GOps.r rfl rfl rfl rfl (grd_load1 (b := ?_) (v := ?_) tab_is rfl rfl rfl rfl ?_ ?_) ?_
      rotate_left 2
      refine Hp.at_push_id ?_
      · simp; done
      · rfl
    refine GOps.take rfl rfl ?_ ?_
    · simp; omega
    refine GOps.r rfl rfl rfl rfl (grd_eql rfl rfl rfl) ?_
    refine GOps.r rfl rfl rfl rfl (grd_pick_t rfl rfl ?_ rfl) ?_
    · exact decide_eq_true (by assumption)
    refine GOps.r rfl rfl rfl rfl (grd_move rfl rfl) ?_
    refine GOps.split rfl rfl (fun a2 => ?_) (fun a2 => ?_)
    simp only [beq_true, beq_false, Bool.not_true, Bool.not_false, Bool.not_eq_true', Bool.not_eq_false', decide_eq_true_eq, decide_eq_false_iff_not] at a2
    refine GOps.take rfl rfl ?_ ?_
    · simp; omega
    refine GOps.r rfl rfl rfl rfl (grd_fieldAddr tab_is rfl rfl rfl rfl rfl) ?_
    refine GOps.take rfl rfl ?_ ?_
    · simp; omega
    focus
      refine GOps.r rfl rfl rfl rfl (grd_load1 (b := ?_) (v := ?_) tab_is rfl rfl rfl rfl ?_ ?_) ?_
      rotate_left 2
      refine (Hp.at_push_lt ?_).trans ?_
      · simp; done
      · exact Hp.at_push_eq
      · rfl
    refine GOps.take rfl rfl ?_ ?_
    · simp; omega
    refine GOps.r rfl rfl rfl rfl (grd_fieldAddr tab_is rfl rfl rfl rfl rfl) ?_
    refine GOps.take rfl rfl ?_ ?_
    · simp; omega
    focus
      refine GOps.r rfl rfl rfl rfl (grd_load1 (b := ?_) (v := ?_) tab_is rfl rfl rfl rfl ?_ ?_) ?_
      rotate_left 2
      refine Hp.at_push_id ?_
      · simp; done
      · rfl
    refine GOps.take rfl rfl ?_ ?_
    · simp; omega
    refine GOps.r rfl rfl rfl rfl (grd_eql rfl rfl rfl) ?_
    refine GOps.r rfl rfl rfl rfl (grd_pick_t rfl rfl ?_ rfl) ?_
    · exact decide_eq_true (by assumption)
    refine GOps.r rfl rfl rfl rfl (grd_move rfl rfl) ?_
    refine GOps.split rfl rfl (fun a3 => ?_) (fun a3 => ?_)
    simp only [beq_true, beq_false, Bool.not_true, Bool.not_false, Bool.not_eq_true', Bool.not_eq_false', decide_eq_true_eq, decide_eq_false_iff_not] at a3
    refine GOps.take rfl rfl ?_ ?_
    · simp; omega
    refine GOps.r rfl rfl rfl rfl (grd_fieldAddr tab_is rfl rfl rfl rfl rfl) ?_
    refine GOps.take rfl rfl ?_ ?_
    · simp; omega
    focus
      refine GOps.r rfl rfl rfl rfl (grd_loadNK (b := ?_) (cs := ?_) tab_is rfl rfl rfl rfl ?_ ?_ ?_) ?_
      rotate_left 2
      refine (Hp.at_push_lt ?_).trans ?_
      · simp; done
      · exact Hp.at_push_eq
      · exact Nat.le_of_ble_eq_true rfl
      · simp [Value.cells]; rfl
    refine GOps.take rfl rfl ?_ ?_
    · simp; omega
    refine GOps.r rfl rfl rfl rfl (grd_fieldAddr tab_is rfl rfl rfl rfl rfl) ?_
    refine GOps.take rfl rfl ?_ ?_
    · simp; omega
    focus
      refine GOps.r rfl rfl rfl rfl (grd_loadNK (b := ?_) (cs := ?_) tab_is rfl rfl rfl rfl ?_ ?_ ?_) ?_
      rotate_left 2
      refine Hp.at_push_id ?_
      · simp; done
      · exact Nat.le_of_ble_eq_true rfl
      · simp [Value.cells]; rfl
    refine GOps.take rfl rfl ?_ ?_
    · simp; omega
    focus
      refine GOps.r rfl rfl rfl rfl (grd_aeqlK (b := ?_) tab_is rfl rfl rfl rfl rfl rfl ?_ ?_ ?_) ?_
      rotate_left 1
      · rfl
      · rfl
      · simp [lEq, cEq]; rfl
    refine GOps.r rfl rfl rfl rfl (grd_pick_t rfl rfl ?_ rfl) ?_
    · exact decide_eq_true (by assumption)
    refine GOps.r rfl rfl rfl rfl (grd_move rfl rfl) ?_
    refine GOps.split rfl rfl (fun a4 => ?_) (fun a4 => ?_)
    simp only [beq_true, beq_false, Bool.not_true, Bool.not_false, Bool.not_eq_true', Bool.not_eq_false', decide_eq_true_eq, decide_eq_false_iff_not] at a4
    refine GOps.take rfl rfl ?_ ?_
    · exact decide_eq_true (by assumption)
    refine GOps.r rfl rfl rfl rfl (grd_fieldAddr tab_is rfl rfl rfl rfl rfl) ?_
    refine GOps.take rfl rfl ?_ ?_
    · exact decide_eq_true (by assumption)
    focus
      refine GOps.r rfl rfl rfl rfl (grd_load1 (b := ?_) (v := ?_) tab_is rfl rfl rfl rfl ?_ ?_) ?_
      rotate_left 2
      refine (Hp.at_push_lt ?_).trans ?_
      · simp; done
      · exact Hp.at_push_eq
      · rfl
    refine GOps.take rfl rfl ?_ ?_
    · exact decide_eq_true (by assumption)
    focus
      refine GOps.re rfl rfl rfl rfl (grd_strBS (L := ?_) tab_is rfl rfl rfl rfl rfl rfl rfl rfl ?_) ?_
      rotate_left 1
      refine BS.ext (by assumption) ?_
      refine HExt.push ?_
      refine HExt.push ?_
      · exact HExt.refl _ _
    refine GOps.take rfl rfl ?_ ?_
    · exact decide_eq_true (by assumption)
    refine GOps.r rfl rfl rfl rfl (grd_fieldAddr tab_is rfl rfl rfl rfl rfl) ?_
    refine GOps.take rfl rfl ?_ ?_
    · exact decide_eq_true (by assumption)
    focus
      refine GOps.r rfl rfl rfl rfl (grd_load1 (b := ?_) (v := ?_) tab_is rfl rfl rfl rfl ?_ ?_) ?_
      rotate_left 2
      refine Hp.at_push_id ?_
      · simp; done
      · rfl
    refine GOps.take rfl rfl ?_ ?_
    · exact decide_eq_true (by assumption)
    focus
      refine GOps.re rfl rfl rfl rfl (grd_strBS (L := ?_) tab_is rfl rfl rfl rfl rfl rfl rfl rfl ?_) ?_
      rotate_left 1
      refine BS.ext (by assumption) ?_
      refine HExt.push ?_
      refine HExt.push ?_
      · exact HExt.refl _ _
    refine GOps.take rfl rfl ?_ ?_
    · exact decide_eq_true (by assumption)
    refine GOps.r rfl rfl rfl rfl (grd_seql' rfl rfl rfl) ?_
    refine GOps.r rfl rfl rfl rfl (grd_pick_t rfl rfl ?_ rfl) ?_
    · assumption
    refine GOps.r rfl rfl rfl rfl (grd_move rfl rfl) ?_
    refine GOps.split rfl rfl (fun a5 => ?_) (fun a5 => ?_)
    simp only [beq_true, beq_false, Bool.not_true, Bool.not_false, Bool.not_eq_true', Bool.not_eq_false', decide_eq_true_eq, decide_eq_false_iff_not] at a5
    refine GOps.take rfl rfl ?_ ?_
    · simp; omega
    refine GOps.r rfl rfl rfl rfl (grd_fieldAddr tab_is rfl rfl rfl rfl rfl) ?_
    refine GOps.take rfl rfl ?_ ?_
    · simp; omega
    focus
      refine GOps.r rfl rfl rfl rfl (grd_load1 (b := ?_) (v := ?_) tab_is rfl rfl rfl rfl ?_ ?_) ?_
      rotate_left 2
      refine (Hp.at_push_lt ?_).trans ?_
      · simp; done
      · exact Hp.at_push_eq
      · rfl
    refine GOps.take rfl rfl ?_ ?_
    · simp; omega
    refine GOps.r rfl rfl rfl rfl (grd_fieldAddr tab_is rfl rfl rfl rfl rfl) ?_
    refine GOps.take rfl rfl ?_ ?_
    · simp; omega
    focus
      refine GOps.r rfl rfl rfl rfl (grd_load1 (b := ?_) (v := ?_) tab_is rfl rfl rfl rfl ?_ ?_) ?_
      rotate_left 2
      refine Hp.at_push_id ?_
      · simp; done
      · rfl
    refine GOps.take rfl rfl ?_ ?_
    · simp; omega
    refine GOps.r rfl rfl rfl rfl (grd_eql rfl rfl rfl) ?_
    refine GOps.r rfl rfl rfl rfl (grd_pick_t rfl rfl ?_ rfl) ?_
    · exact decide_eq_true (by assumption)
    refine GOps.r rfl rfl rfl rfl (grd_move rfl rfl) ?_
    refine GOps.split rfl rfl (fun a6 => ?_) (fun a6 => ?_)
    simp only [beq_true, beq_false, Bool.not_true, Bool.not_false, Bool.not_eq_true', Bool.not_eq_false', decide_eq_true_eq, decide_eq_false_iff_not] at a6
    refine GOps.take rfl rfl ?_ ?_
    · simp; omega
    refine GOps.r rfl rfl rfl rfl (grd_fieldAddr tab_is rfl rfl rfl rfl rfl) ?_
    refine GOps.take rfl rfl ?_ ?_
    · simp; omega
    focus
      refine GOps.r rfl rfl rfl rfl (grd_loadNK (b := ?_) (cs := ?_) tab_is rfl rfl rfl rfl ?_ ?_ ?_) ?_
      rotate_left 2
      refine (Hp.at_push_lt ?_).trans ?_
      · simp; done
      · exact Hp.at_push_eq
      · exact Nat.le_of_ble_eq_true rfl
      · simp [Value.cells]; rfl
    refine GOps.take rfl rfl ?_ ?_
    · simp; omega
    refine GOps.r rfl rfl rfl rfl (grd_fieldAddr tab_is rfl rfl rfl rfl rfl) ?_
    refine GOps.take rfl rfl ?_ ?_
    · simp; omega
    focus
      refine GOps.r rfl rfl rfl rfl (grd_loadNK (b := ?_) (cs := ?_) tab_is rfl rfl rfl rfl ?_ ?_ ?_) ?_
      rotate_left 2
      refine Hp.at_push_id ?_
      · simp; done
      · exact Nat.le_of_ble_eq_true rfl
      · simp [Value.cells]; rfl
    refine GOps.take rfl rfl ?_ ?_
    · simp; omega
    focus
      refine GOps.r rfl rfl rfl rfl (grd_aeqlK (b := ?_) tab_is rfl rfl rfl rfl rfl rfl ?_ ?_ ?_) ?_
      rotate_left 1
      · rfl
      · rfl
      · simp [lEq, cEq]; rfl
    refine GOps.r rfl rfl rfl rfl (grd_pick_t rfl rfl ?_ rfl) ?_
    · exact decide_eq_true (by assumption)
    refine GOps.r rfl rfl rfl rfl (grd_assign rfl rfl) ?_
    refine GOps.nil ?_
    refine GWP.ret ?_
    refine ⟨_, .one rfl, ?_⟩
    refine ⟨?_, ?_⟩
    rotate_left 1
    refine HExt.push ?_
    refine HExt.push ?_
    · exact HExt.refl _ _
    simp only [beq_true, beq_false, Bool.not_true, Bool.not_false, Bool.not_eq_true', Bool.not_eq_false', decide_eq_true_eq, decide_eq_false_iff_not] at a6
    refine GOps.no rfl ?_ rfl rfl ?_
    · simp; omega
    refine GOps.no rfl ?_ rfl rfl ?_
    · simp; omega
    refine GOps.no rfl ?_ rfl rfl ?_
    · simp; omega
    refine GOps.no rfl ?_ rfl rfl ?_
    · simp; omega
    refine GOps.no rfl ?_ rfl rfl ?_
    · simp; omega
    refine GOps.r rfl rfl rfl rfl (grd_pick_f rfl rfl ?_ rfl) ?_
    · exact decide_eq_false (by assumption)
    refine GOps.r rfl rfl rfl rfl (grd_assign rfl rfl) ?_
    refine GOps.nil ?_
    refine GWP.ret ?_
    refine ⟨_, .one rfl, ?_⟩
    refine ⟨?_, ?_⟩
    · simp [*]; done
    refine HExt.push ?_
    refine HExt.push ?_
    · exact HExt.refl _ _
    simp only [beq_true, beq_false, Bool.not_true, Bool.not_false, Bool.not_eq_true', Bool.not_eq_false', decide_eq_true_eq, decide_eq_false_iff_not] at a5
    refine GOps.no rfl ?_ rfl rfl ?_
    · simp; omega
    refine GOps.no rfl ?_ rfl rfl ?_
    · simp; omega
    refine GOps.no rfl ?_ rfl rfl ?_
    · simp; omega
    refine GOps.no rfl ?_ rfl rfl ?_
    · simp; omega
    refine GOps.no rfl ?_ rfl rfl ?_
    · simp; omega
    refine GOps.r rfl rfl rfl rfl (grd_pick_f rfl rfl ?_ rfl) ?_
    · exact decide_eq_false (by assumption)
    refine GOps.r rfl rfl rfl rfl (grd_move rfl rfl) ?_
    refine GOps.no rfl ?_ rfl rfl ?_
    · simp; done
    refine GOps.no rfl ?_ rfl rfl ?_
    · simp; done
    refine GOps.no rfl ?_ rfl rfl ?_
    · simp; done
    refine GOps.no rfl ?_ rfl rfl ?_
    · simp; done
    refine GOps.no rfl ?_ rfl rfl ?_
    · simp; done
    refine GOps.r rfl rfl rfl rfl (grd_pick_f rfl rfl ?_ rfl) ?_
    · with_reducible rfl
    refine GOps.r rfl rfl rfl rfl (grd_assign rfl rfl) ?_
    refine GOps.nil ?_
    refine GWP.ret ?_
    refine ⟨_, .one rfl, ?_⟩
    refine ⟨?_, ?_⟩
    · simp [*]; done
    refine HExt.push ?_
    refine HExt.push ?_
    · exact HExt.refl _ _
    simp only [beq_true, beq_false, Bool.not_true, Bool.not_false, Bool.not_eq_true', Bool.not_eq_false', decide_eq_true_eq, decide_eq_false_iff_not] at a4
    refine GOps.no rfl ?_ rfl rfl ?_
    · simp [*]; done
    refine GOps.no rfl ?_ rfl rfl ?_
    · simp [*]; done
    refine GOps.no rfl ?_ rfl rfl ?_
    · simp [*]; done
    refine GOps.no rfl ?_ rfl rfl ?_
    · simp [*]; done
    refine GOps.no rfl ?_ rfl rfl ?_
    · simp [*]; done
    refine GOps.no rfl ?_ rfl rfl ?_
    · simp [*]; done
    refine GOps.no rfl ?_ rfl rfl ?_
    · simp [*]; done
    refine GOps.r rfl rfl rfl rfl (grd_pick_f rfl rfl ?_ rfl) ?_
    · assumption
    refine GOps.r rfl rfl rfl rfl (grd_move rfl rfl) ?_
    refine GOps.no rfl ?_ rfl rfl ?_
    · simp; done
    refine GOps.no rfl ?_ rfl rfl ?_
    · simp; done
    refine GOps.no rfl ?_ rfl rfl ?_
    · simp; done
    refine GOps.no rfl ?_ rfl rfl ?_
    · simp; done
    refine GOps.no rfl ?_ rfl rfl ?_
    · simp; done
    refine GOps.r rfl rfl rfl rfl (grd_pick_f rfl rfl ?_ rfl) ?_
    · with_reducible rfl
    refine GOps.r rfl rfl rfl rfl (grd_move rfl rfl) ?_
    refine GOps.no rfl ?_ rfl rfl ?_
    · simp; done
    refine GOps.no rfl ?_ rfl rfl ?_
    · simp; done
    refine GOps.no rfl ?_ rfl rfl ?_
    · simp; done
    refine GOps.no rfl ?_ rfl rfl ?_
    · simp; done
    refine GOps.no rfl ?_ rfl rfl ?_
    · simp; done
    refine GOps.r rfl rfl rfl rfl (grd_pick_f rfl rfl ?_ rfl) ?_
    · with_reducible rfl
    refine GOps.r rfl rfl rfl rfl (grd_assign rfl rfl) ?_
    refine GOps.nil ?_
    refine GWP.ret ?_
    refine ⟨_, .one rfl, ?_⟩
    refine ⟨?_, ?_⟩
    rotate_left 1
    refine HExt.push ?_
    refine HExt.push ?_
    · exact HExt.refl _ _
    simp only [beq_true, beq_false, Bool.not_true, Bool.not_false, Bool.not_eq_true', Bool.not_eq_false', decide_eq_true_eq, decide_eq_false_iff_not] at a3
    refine GOps.no rfl ?_ rfl rfl ?_
    · simp; omega
    refine GOps.no rfl ?_ rfl rfl ?_
    · simp; omega
    refine GOps.no rfl ?_ rfl rfl ?_
    · simp; omega
    refine GOps.no rfl ?_ rfl rfl ?_
    · simp; omega
    refine GOps.no rfl ?_ rfl rfl ?_
    · simp; omega
    refine GOps.r rfl rfl rfl rfl (grd_pick_f rfl rfl ?_ rfl) ?_
    · exact decide_eq_false (by assumption)
    refine GOps.r rfl rfl rfl rfl (grd_move rfl rfl) ?_
    refine GOps.no rfl ?_ rfl rfl ?_
    · simp; done
    refine GOps.no rfl ?_ rfl rfl ?_
    · simp; done
    refine GOps.no rfl ?_ rfl rfl ?_
    · simp; done
    refine GOps.no rfl ?_ rfl rfl ?_
    · simp; done
    refine GOps.no rfl ?_ rfl rfl ?_
    · simp; done
    refine GOps.no rfl ?_ rfl rfl ?_
    · simp; done
    refine GOps.no rfl ?_ rfl rfl ?_
    · simp; done
    refine GOps.r rfl rfl rfl rfl (grd_pick_f rfl rfl ?_ rfl) ?_
    · with_reducible rfl
    refine GOps.r rfl rfl rfl rfl (grd_move rfl rfl) ?_
    refine GOps.no rfl ?_ rfl rfl ?_
    · simp; done
    refine GOps.no rfl ?_ rfl rfl ?_
    · simp; done
    refine GOps.no rfl ?_ rfl rfl ?_
    · simp; done
    refine GOps.no rfl ?_ rfl rfl ?_
    · simp; done
    refine GOps.no rfl ?_ rfl rfl ?_
    · simp; done
    refine GOps.r rfl rfl rfl rfl (grd_pick_f rfl rfl ?_ rfl) ?_
    · with_reducible rfl
    refine GOps.r rfl rfl rfl rfl (grd_move rfl rfl) ?_
    refine GOps.no rfl ?_ rfl rfl ?_
    · simp; done
    refine GOps.no rfl ?_ rfl rfl ?_
    · simp; done
    refine GOps.no rfl ?_ rfl rfl ?_
    · simp; done
    refine GOps.no rfl ?_ rfl rfl ?_
    · simp; done
    refine GOps.no rfl ?_ rfl rfl ?_
    · simp; done
    refine GOps.r rfl rfl rfl rfl (grd_pick_f rfl rfl ?_ rfl) ?_
    · with_reducible rfl
    refine GOps.r rfl rfl rfl rfl (grd_assign rfl rfl) ?_
    refine GOps.nil ?_
    refine GWP.ret ?_
    refine ⟨_, .one rfl, ?_⟩
    refine ⟨?_, ?_⟩
    · simp [*]; done
    refine HExt.push ?_
    refine HExt.push ?_
    · exact HExt.refl _ _
    simp only [beq_true, beq_false, Bool.not_true, Bool.not_false, Bool.not_eq_true', Bool.not_eq_false', decide_eq_true_eq, decide_eq_false_iff_not] at a2
    refine GOps.no rfl ?_ rfl rfl ?_
    · simp; omega
    refine GOps.no rfl ?_ rfl rfl ?_
    · simp; omega
    refine GOps.no rfl ?_ rfl rfl ?_
    · simp; omega
    refine GOps.no rfl ?_ rfl rfl ?_
    · simp; omega
    refine GOps.no rfl ?_ rfl rfl ?_
    · simp; omega
    refine GOps.r rfl rfl rfl rfl (grd_pick_f rfl rfl ?_ rfl) ?_
    · exact decide_eq_false (by assumption)
    refine GOps.r rfl rfl rfl rfl (grd_move rfl rfl) ?_
    refine GOps.no rfl ?_ rfl rfl ?_
    · simp; done
    refine GOps.no rfl ?_ rfl rfl ?_
    · simp; done
    refine GOps.no rfl ?_ rfl rfl ?_
    · simp; done
    refine GOps.no rfl ?_ rfl rfl ?_
    · simp; done
    refine GOps.no rfl ?_ rfl rfl ?_
    · simp; done
    refine GOps.r rfl rfl rfl rfl (grd_pick_f rfl rfl ?_ rfl) ?_
    · with_reducible rfl
    refine GOps.r rfl rfl rfl rfl (grd_move rfl rfl) ?_
    refine GOps.no rfl ?_ rfl rfl ?_
    · simp; done
    refine GOps.no rfl ?_ rfl rfl ?_
    · simp; done
    refine GOps.no rfl ?_ rfl rfl ?_
    · simp; done
    refine GOps.no rfl ?_ rfl rfl ?_
    · simp; done
    refine GOps.no rfl ?_ rfl rfl ?_
    · simp; done
    refine GOps.no rfl ?_ rfl rfl ?_
    · simp; done
    refine GOps.no rfl ?_ rfl rfl ?_
    · simp; done
    refine GOps.r rfl rfl rfl rfl (grd_pick_f rfl rfl ?_ rfl) ?_
    · with_reducible rfl
    refine GOps.r rfl rfl rfl rfl (grd_move rfl rfl) ?_
    refine GOps.no rfl ?_ rfl rfl ?_
    · simp; done
    refine GOps.no rfl ?_ rfl rfl ?_
    · simp; done
    refine GOps.no rfl ?_ rfl rfl ?_
    · simp; done
    refine GOps.no rfl ?_ rfl rfl ?_
    · simp; done
    refine GOps.no rfl ?_ rfl rfl ?_
    · simp; done
    refine GOps.r rfl rfl rfl rfl (grd_pick_f rfl rfl ?_ rfl) ?_
    · with_reducible rfl
    refine GOps.r rfl rfl rfl rfl (grd_move rfl rfl) ?_
    refine GOps.no rfl ?_ rfl rfl ?_
    · simp; done
    refine GOps.no rfl ?_ rfl rfl ?_
    · simp; done
    refine GOps.no rfl ?_ rfl rfl ?_
    · simp; done
    refine GOps.no rfl ?_ rfl rfl ?_
    · simp; done
    refine GOps.no rfl ?_ rfl rfl ?_
    · simp; done
    refine GOps.r rfl rfl rfl rfl (grd_pick_f rfl rfl ?_ rfl) ?_
    · with_reducible rfl
    refine GOps.r rfl rfl rfl rfl (grd_assign rfl rfl) ?_
    refine GOps.nil ?_
    refine GWP.ret ?_
    refine ⟨_, .one rfl, ?_⟩
    refine ⟨?_, ?_⟩
    · simp [*]; done
    refine HExt.push ?_
    refine HExt.push ?_
    · exact HExt.refl _ _
    simp only [beq_true, beq_false, Bool.not_true, Bool.not_false, Bool.not_eq_true', Bool.not_eq_false', decide_eq_true_eq, decide_eq_false_iff_not] at a1
    refine GOps.no rfl ?_ rfl rfl ?_
    · simp; omega
    refine GOps.no rfl ?_ rfl rfl ?_
    · simp; omega
    refine GOps.no rfl ?_ rfl rfl ?_
    · simp; omega
    refine GOps.no rfl ?_ rfl rfl ?_
    · simp; omega
    refine GOps.no rfl ?_ rfl rfl ?_
    · simp; omega
    refine GOps.r rfl rfl rfl rfl (grd_pick_f rfl rfl ?_ rfl) ?_
    · exact decide_eq_false (by assumption)
    refine GOps.r rfl rfl rfl rfl (grd_move rfl rfl) ?_
    refine GOps.no rfl ?_ rfl rfl ?_
    · simp; done
    refine GOps.no rfl ?_ rfl rfl ?_
    · simp; done
    refine GOps.no rfl ?_ rfl rfl ?_
    · simp; done
    refine GOps.no rfl ?_ rfl rfl ?_
    · simp; done
    refine GOps.no rfl ?_ rfl rfl ?_
    · simp; done
    refine GOps.r rfl rfl rfl rfl (grd_pick_f rfl rfl ?_ rfl) ?_
    · with_reducible rfl
    refine GOps.r rfl rfl rfl rfl (grd_move rfl rfl) ?_
    refine GOps.no rfl ?_ rfl rfl ?_
    · simp; done
    refine GOps.no rfl ?_ rfl rfl ?_
    · simp; done
    refine GOps.no rfl ?_ rfl rfl ?_
    · simp; done
    refine GOps.no rfl ?_ rfl rfl ?_
    · simp; done
    refine GOps.no rfl ?_ rfl rfl ?_
    · simp; done
    refine GOps.r rfl rfl rfl rfl (grd_pick_f rfl rfl ?_ rfl) ?_
    · with_reducible rfl
    refine GOps.r rfl rfl rfl rfl (grd_move rfl rfl) ?_
    refine GOps.no rfl ?_ rfl rfl ?_
    · simp; done
    refine GOps.no rfl ?_ rfl rfl ?_
    · simp; done
    refine GOps.no rfl ?_ rfl rfl ?_
    · simp; done
    refine GOps.no rfl ?_ rfl rfl ?_
    · simp; done
    refine GOps.no rfl ?_ rfl rfl ?_
    · simp; done
    refine GOps.no rfl ?_ rfl rfl ?_
    · simp; done
    refine GOps.no rfl ?_ rfl rfl ?_
    · simp; done
    refine GOps.r rfl rfl rfl rfl (grd_pick_f rfl rfl ?_ rfl) ?_
    · with_reducible rfl
    refine GOps.r rfl rfl rfl rfl (grd_move rfl rfl) ?_
    refine GOps.no rfl ?_ rfl rfl ?_
    · simp; done
    refine GOps.no rfl ?_ rfl rfl ?_
    · simp; done
    refine GOps.no rfl ?_ rfl rfl ?_
    · simp; done
    refine GOps.no rfl ?_ rfl rfl ?_
    · simp; done
    refine GOps.no rfl ?_ rfl rfl ?_
    · simp; done
    refine GOps.r rfl rfl rfl rfl (grd_pick_f rfl rfl ?_ rfl) ?_
    · with_reducible rfl
    refine GOps.r rfl rfl rfl rfl (grd_move rfl rfl) ?_
    refine GOps.no rfl ?_ rfl rfl ?_
    · simp; done
    refine GOps.no rfl ?_ rfl rfl ?_
    · simp; done
    refine GOps.no rfl ?_ rfl rfl ?_
    · simp; done
    refine GOps.no rfl ?_ rfl rfl ?_
    · simp; done
    refine GOps.no rfl ?_ rfl rfl ?_
    · simp; done
    refine GOps.r rfl rfl rfl rfl (grd_pick_f rfl rfl ?_ rfl) ?_
    · with_reducible rfl
    refine GOps.r rfl rfl rfl rfl (grd_assign rfl rfl) ?_
    refine GOps.nil ?_
    refine GWP.ret ?_
    refine ⟨_, .one rfl, ?_⟩
    refine ⟨?_, ?_⟩
    · simp [*]; done
    refine HExt.push ?_
    refine HExt.push ?_
    · exact HExt.refl _ _
  · subst a1 a2 a3 a5 a6
    refine congrArg Value.bool ?_
    rw [Bool.eq_iff_iff]
    simp at a4
    simp [a4.1, a4.2]
  · refine congrArg Value.bool (decide_eq_false fun e => ?_).symm
    simp only [RecS.mk.injEq] at e
    simp [e.2.2.2.1, e.2.2.2.2.1] at a4
set_option maxHeartbeats 4000000 in
set_option maxRecDepth 100000 in
set_option linter.unusedSimpArgs false in
theorem g_rplain (H : Hp) (r : RecS) (p : Option Addr) (m cm : Nat) (hL : BS H (.slice p m cm) r.blocks) :
    GCalls Try.prog 13 [.agg #[.int .u8 r.kind, .int .i64 r.id, .int .i64 r.base, .int .i64 r.fr, .int .i64 r.to, .slice p m cm, .int .i64 r.count, .int .u64 r.len, .int .u64 r.sum]] [] H fun v H' => v = .agg #[.int .u8 r.kind, .int .i64 r.id, .int .i64 r.base, .int .i64 r.fr, .int .i64 r.to, .string ⟨r.blocks.toArray⟩, .int .i64 r.count, .int .u64 r.len, .int .u64 r.sum] ∧ HExt [] H H' := by
  refine GCalls.body tab_is Try.func13 rfl Try.results13 Try.ntmps13 (by simp) ?_ ?_
  · first | (intro _ h; cases h; done) | (simp; done) | (simp; omega) | (intro i hi; simp at hi; rcases hi with rfl | rfl <;> omega) | (intro i hi; simp at hi; rcases hi with rfl | rfl | rfl <;> omega)
  focus
    refine GWP.seq ?_
    refine GWP.region ?_
    focus
      refine GOps.w1 rfl rfl rfl rfl (gop_box' (id := ?_) ?_ rfl rfl rfl) ?_
      rotate_left 1
      · rfl
    focus
      refine GOps.w1 rfl rfl rfl rfl (gop_alloc' (id := ?_) ?_ tab_is rfl rfl ?_) ?_
      rotate_left 1
      · simp; rfl
      · decide
    refine GOps.nil ?_
    refine GWP.seq ?_
    refine GWP.region ?_
    refine GOps.r rfl rfl rfl rfl (grd_fieldAddr tab_is rfl rfl rfl rfl rfl) ?_
    focus
      refine GOps.r rfl rfl rfl rfl (grd_load1 (b := ?_) (v := ?_) tab_is rfl rfl rfl rfl ?_ ?_) ?_
      rotate_left 2
      refine (Hp.at_push_lt ?_).trans ?_
      · simp; done
      · exact Hp.at_push_eq
      · rfl
    refine GOps.r rfl rfl rfl rfl (grd_fieldAddr tab_is rfl rfl rfl rfl rfl) ?_
    focus
      refine GOps.r rfl rfl rfl rfl (grd_load1 (b := ?_) (v := ?_) tab_is rfl rfl rfl rfl ?_ ?_) ?_
      rotate_left 2
      refine (Hp.at_push_lt ?_).trans ?_
      · simp; done
      · exact Hp.at_push_eq
      · rfl
    refine GOps.r rfl rfl rfl rfl (grd_fieldAddr tab_is rfl rfl rfl rfl rfl) ?_
    focus
      refine GOps.r rfl rfl rfl rfl (grd_load1 (b := ?_) (v := ?_) tab_is rfl rfl rfl rfl ?_ ?_) ?_
      rotate_left 2
      refine (Hp.at_push_lt ?_).trans ?_
      · simp; done
      · exact Hp.at_push_eq
      · rfl
    refine GOps.r rfl rfl rfl rfl (grd_fieldAddr tab_is rfl rfl rfl rfl rfl) ?_
    refine GOps.r rfl rfl rfl rfl (grd_fieldAddr tab_is rfl rfl rfl rfl rfl) ?_
    focus
      refine GOps.r rfl rfl rfl rfl (grd_load1 (b := ?_) (v := ?_) tab_is rfl rfl rfl rfl ?_ ?_) ?_
      rotate_left 2
      refine (Hp.at_push_lt ?_).trans ?_
      · simp; done
      · exact Hp.at_push_eq
      · rfl
    refine GOps.r rfl rfl rfl rfl (grd_fieldAddr tab_is rfl rfl rfl rfl rfl) ?_
    refine GOps.r rfl rfl rfl rfl (grd_fieldAddr tab_is rfl rfl rfl rfl rfl) ?_
    focus
      refine GOps.r rfl rfl rfl rfl (grd_load1 (b := ?_) (v := ?_) tab_is rfl rfl rfl rfl ?_ ?_) ?_
      rotate_left 2
      refine (Hp.at_push_lt ?_).trans ?_
      · simp; done
      · exact Hp.at_push_eq
      · rfl
    refine GOps.r rfl rfl rfl rfl (grd_fieldAddr tab_is rfl rfl rfl rfl rfl) ?_
    focus
      refine GOps.r rfl rfl rfl rfl (grd_load1 (b := ?_) (v := ?_) tab_is rfl rfl rfl rfl ?_ ?_) ?_
      rotate_left 2
      refine (Hp.at_push_lt ?_).trans ?_
      · simp; done
      · exact Hp.at_push_eq
      · rfl
    focus
      refine GOps.re rfl rfl rfl rfl (grd_strBS (L := ?_) tab_is rfl rfl rfl rfl rfl rfl rfl rfl ?_) ?_
      rotate_left 1
      refine BS.ext (by assumption) ?_
      refine HExt.push ?_
      refine HExt.push ?_
      · exact HExt.refl _ _
    refine GOps.r rfl rfl rfl rfl (grd_fieldAddr tab_is rfl rfl rfl rfl rfl) ?_
    focus
      refine GOps.r rfl rfl rfl rfl (grd_load1 (b := ?_) (v := ?_) tab_is rfl rfl rfl rfl ?_ ?_) ?_
      rotate_left 2
      refine (Hp.at_push_lt ?_).trans ?_
      · simp; done
      · exact Hp.at_push_eq
      · rfl
    refine GOps.r rfl rfl rfl rfl (grd_fieldAddr tab_is rfl rfl rfl rfl rfl) ?_
    refine GOps.r rfl rfl rfl rfl (grd_fieldAddr tab_is rfl rfl rfl rfl rfl) ?_
    focus
      refine GOps.r rfl rfl rfl rfl (grd_load1 (b := ?_) (v := ?_) tab_is rfl rfl rfl rfl ?_ ?_) ?_
      rotate_left 2
      refine (Hp.at_push_lt ?_).trans ?_
      · simp; done
      · exact Hp.at_push_eq
      · rfl
    refine GOps.r rfl rfl rfl rfl (grd_fieldAddr tab_is rfl rfl rfl rfl rfl) ?_
    refine GOps.r rfl rfl rfl rfl (grd_fieldAddr tab_is rfl rfl rfl rfl rfl) ?_
    focus
      refine GOps.r rfl rfl rfl rfl (grd_load1 (b := ?_) (v := ?_) tab_is rfl rfl rfl rfl ?_ ?_) ?_
      rotate_left 2
      refine (Hp.at_push_lt ?_).trans ?_
      · simp; done
      · exact Hp.at_push_eq
      · rfl
    focus
      refine GOps.r rfl rfl rfl rfl (grd_build (cs := ?_) tab_is rfl rfl rfl ?_ rfl ?_) ?_
      rotate_left 1
      · decide
      · simp [gfill, gsets, Value.cells]; rfl
    focus
      refine GOps.s rfl rfl rfl (gop_storeC (b := ?_) (cs := ?_) tab_is rfl rfl ?_ rfl rfl ?_ ?_ ?_ ?_ ?_ ?_) ?_
      rotate_left 2
      · rfl
      · rfl
      refine Hp.at_push_id ?_
      · simp; done
      · rfl
      · exact Nat.le_of_ble_eq_true rfl
      · exact .inr (by simp)
      · simp [splice, Value.cells]; rfl
    refine GOps.nil ?_
    refine GWP.ret ?_
    focus
      refine ⟨_, (gres_cellNK (b := ?_) (cs := ?_) rfl rfl rfl ?_ ?_ ?_), ?_⟩
      rotate_left 2
      refine Hp.at_put_eq ?_
      · simp; done
      · exact Nat.le_of_ble_eq_true rfl
      · simp [Value.cells]; rfl
    refine ⟨?_, ?_⟩
    · rfl
    refine HExt.put ?_ ?_
    refine HExt.push ?_
    refine HExt.push ?_
    · exact HExt.refl _ _
    · exact .inr (by omega)
end Go.Proofs.Ytjlimdiimdihfaa
