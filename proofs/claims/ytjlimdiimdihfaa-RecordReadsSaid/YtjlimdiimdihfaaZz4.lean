/- Records out of bytes: the document's. -/
import Derived.Test.YtjlimdiimdihfaaZz3
import Derived.Test.YtjlimdiimdihfaaZz2
import Derived.Test.YtjlimdiimdihfaaZz0
import Derived.HandedShaped
namespace Go.Proofs.Ytjlimdiimdihfaa
open Go.RowKit

set_option maxHeartbeats 4000000 in
set_option maxRecDepth 100000 in
set_option linter.unusedSimpArgs false in
theorem g_rnumG (s : RdS) (m : Nat) (r : Nat × RdS) (h : s.number m = r) (mi : Int) (hm : mi = (m : Int)) (H : Hp) (g : Nat) (p : Option Addr) (c : Nat) (hr : RG 61 H g p c s) : GCalls Try.prog 27 [.pointer (some ⟨g, 0, none⟩), .int .u64 mi] [g] H fun v H' => v = .int .u64 (r.1 : Int) ∧ (∃ p' c', RG 61 H' g p' c' r.2) ∧ BSk H H' ∧ HExt [g] H H' := by
  subst h hm
  exact g_rnumber H g p c s (m : Int) (by omega) hr
set_option maxHeartbeats 4000000 in
set_option maxRecDepth 100000 in
set_option linter.unusedSimpArgs false in
theorem g_rpar0 (H : Hp) (p : Option Addr) (n c : Nat) (hb : BS H (.slice p n c) []) : GCalls Try.prog 40 [.slice p n c] [] H fun v H' => v = .tuple #[recT 0 0 0 0 0 [] 0 0 0, .bool false] ∧ HExt [] H H' := by
  have hl := hb.len
  simp only [List.length_nil] at hl
  subst hl
  refine GCalls.body tab_is Try.func40 rfl Try.results40 Try.ntmps40 (by simp) ?_ ?_
  · first | (intro _ h; cases h; done) | (simp; done) | (simp; omega) | (intro i hi; simp at hi; rcases hi with rfl | rfl <;> omega) | (intro i hi; simp at hi; rcases hi with rfl | rfl | rfl <;> omega)
  focus
    refine GWP.seq ?_
    refine GWP.region ?_
    focus
      refine GOps.w1 rfl rfl rfl rfl (gop_alloc' (id := ?_) ?_ tab_is rfl rfl ?_) ?_
      rotate_left 1
      · rfl
      · decide
    refine GOps.r rfl rfl rfl rfl (grd_assign rfl rfl) ?_
    refine GOps.nil ?_
    refine GWP.seq ?_
    refine GWP.seq ?_
    refine GWP.region ?_
    refine GOps.r rfl rfl rfl rfl (grd_move rfl rfl) ?_
    refine GOps.r rfl rfl rfl rfl (grd_len tab_is rfl rfl rfl rfl rfl) ?_
    refine GOps.r rfl rfl rfl rfl (grd_eql rfl rfl rfl) ?_
    refine GOps.nil ?_
    refine GWP.cond_t rfl ?_ ?_
    · exact decide_eq_true (by omega)
    refine GWP.seq ?_
    refine GWP.region ?_
    focus
      refine GOps.r rfl rfl rfl rfl (grd_build (cs := ?_) tab_is rfl rfl rfl ?_ rfl ?_) ?_
      rotate_left 1
      · decide
      · simp [gfill, gsets, Value.cells]; rfl
    focus
      refine GOps.s rfl rfl rfl (gop_storeC (b := ?_) (cs := ?_) tab_is rfl rfl ?_ rfl rfl ?_ ?_ ?_ ?_ ?_ ?_) ?_
      rotate_left 2
      · rfl
      · rfl
      · exact Hp.at_push_eq
      · rfl
      · decide
      · exact .inr (by simp)
      · simp [splice, Value.cells]; rfl
    refine GOps.r rfl rfl rfl rfl (grd_assign rfl rfl) ?_
    refine GOps.nil ?_
    refine GWP.ret ?_
    focus
      refine ⟨_, (.two (gres_cellNK (b := ?_) (cs := ?_) rfl rfl rfl ?_ ?_ ?_) (.one rfl)), ?_⟩
      rotate_left 2
      refine Hp.at_put_eq ?_
      · simp; done
      · decide
      · simp [Value.cells]; rfl
    refine ⟨?_, ?_⟩
    · rfl
    refine HExt.put ?_ ?_
    refine HExt.push ?_
    · exact HExt.refl _ _
    · exact .inr (by omega)
set_option maxHeartbeats 4000000 in
set_option maxRecDepth 100000 in
set_option linter.unusedSimpArgs false in
theorem g_rpar1 (H : Hp) (p : Option Addr) (n c : Nat) (M : List UInt8) (hb : BS H (.slice p n c) (1 :: M)) (hn : n ≤ 35184372088832) (r1 r2 : Nat × RdS) (h1 : RdS.number ⟨M, 0⟩ 1099511627776 = r1) (h2 : r1.2.number 1099511627776 = r2) : GCalls Try.prog 40 [.slice p n c] [] H fun v H' => v = (if r2.2.e ≠ 0 ∨ 0 < r2.2.l.length then .tuple #[recT 0 0 0 0 0 [] 0 0 0, .bool false] else .tuple #[recT 1 r1.1 r2.1 0 0 [] 0 0 0, .bool true]) ∧ HExt [] H H' := by
  have hl := hb.len
  simp only [List.length_cons] at hl
  subst hl
  have t1 := numG_le h1
  have t2 := numG_le h2
  refine GCalls.body tab_is Try.func40 rfl Try.results40 Try.ntmps40 (by simp) ?_ ?_
  · first | (intro _ h; cases h; done) | (simp; done) | (simp; omega) | (intro i hi; simp at hi; rcases hi with rfl | rfl <;> omega) | (intro i hi; simp at hi; rcases hi with rfl | rfl | rfl <;> omega)
  focus
    refine GWP.seq ?_
    refine GWP.region ?_
    focus
      refine GOps.w1 rfl rfl rfl rfl (gop_alloc' (id := ?_) ?_ tab_is rfl rfl ?_) ?_
      rotate_left 1
      · rfl
      · decide
    refine GOps.r rfl rfl rfl rfl (grd_assign rfl rfl) ?_
    refine GOps.nil ?_
    refine GWP.seq ?_
    refine GWP.seq ?_
    refine GWP.region ?_
    refine GOps.r rfl rfl rfl rfl (grd_move rfl rfl) ?_
    refine GOps.r rfl rfl rfl rfl (grd_len tab_is rfl rfl rfl rfl rfl) ?_
    refine GOps.r rfl rfl rfl rfl (grd_eql rfl rfl rfl) ?_
    refine GOps.nil ?_
    refine GWP.cond_f rfl ?_ ?_
    · exact decide_eq_false (by omega)
    refine GWP.skip ?_
    refine GWP.seq ?_
    refine GWP.region ?_
    refine GOps.r rfl rfl rfl rfl (grd_move rfl rfl) ?_
    focus
      refine GOps.r rfl rfl rfl rfl (grd_indexBS (q := ?_) (L := ?_) tab_is rfl rfl rfl rfl rfl ?_ ?_ ?_) ?_
      rotate_left 2
      focus
        refine BS.ext (by assumption) ?_
        refine HExt.push ?_
        · exact HExt.refl _ _
      · rfl
      · exact Nat.le_of_ble_eq_true rfl
    focus
      refine GOps.re rfl rfl rfl rfl (grd_loadBSK (n := ?_) (c := ?_) (L := ?_) (u := ?_) tab_is rfl rfl rfl rfl ?_ ?_ ?_) ?_
      rotate_left 4
      focus
        refine BS.ext (by assumption) ?_
        refine HExt.push ?_
        · exact HExt.refl _ _
      · exact Nat.le_of_ble_eq_true rfl
      · simp only [List.getD_cons_zero]; rfl
    focus
      refine GOps.r rfl rfl rfl rfl (grd_build (cs := ?_) tab_is rfl rfl rfl ?_ rfl ?_) ?_
      rotate_left 1
      · decide
      · simp [gfill, gsets, Value.cells]; rfl
    focus
      refine GOps.w1 rfl rfl rfl rfl (gop_alloc' (id := ?_) ?_ tab_is rfl rfl ?_) ?_
      rotate_left 1
      · simp; rfl
      · decide
    focus
      refine GOps.s rfl rfl rfl (gop_storeC (b := ?_) (cs := ?_) tab_is rfl rfl ?_ rfl rfl ?_ ?_ ?_ ?_ ?_ ?_) ?_
      rotate_left 2
      · rfl
      · rfl
      refine Hp.at_push_id ?_
      · simp; done
      · rfl
      · decide
      · exact .inr (by simp)
      · simp [splice, Value.cells]; rfl
    refine GOps.nil ?_
    refine GWP.seq ?_
    refine GWP.region ?_
    refine GOps.r rfl rfl rfl rfl (grd_move rfl rfl) ?_
    focus
      refine gops_bs rfl rfl rfl rfl (grd_slBS (l := ?_) (h := ?_) (m2 := ?_) (L := ?_) (M := ?_) tab_is rfl rfl rfl rfl ?_ ?_ ?_ ?_ ?_ ?_ ?_) ?_
      rotate_left 5
      focus
        refine BS.ext (by assumption) ?_
        refine HExt.put ?_ ?_
        refine HExt.push ?_
        refine HExt.push ?_
        · exact HExt.refl _ _
        · exact .inr (by omega)
      · refine gbound_const ?_; exact rfl
      · exact rfl
      · exact Nat.le_of_ble_eq_true rfl
      · omega
      · simp; rfl
      · refine Eq.trans (List.take_of_length_le ?_) ?_; rotate_left 1; rfl; (simp; done)
    intro pb1 cb1 b1
    have b1n := BS.len b1
    focus
      refine GOps.r rfl rfl rfl rfl (grd_build (cs := ?_) tab_is rfl rfl rfl ?_ rfl ?_) ?_
      rotate_left 1
      · decide
      · simp [gfill, gsets, Value.cells]; rfl
    focus
      refine GOps.w1 rfl rfl rfl rfl (gop_box' (id := ?_) ?_ rfl rfl rfl) ?_
      rotate_left 1
      · simp; rfl
    refine GOps.r rfl rfl rfl rfl (grd_assign rfl rfl) ?_
    refine GOps.nil ?_
    refine GWP.seq ?_
    refine GWP.region ?_
    refine GOps.r rfl rfl rfl rfl (grd_assign rfl rfl) ?_
    refine GOps.nil ?_
    refine GWP.seq ?_
    refine GWP.seq ?_
    refine GWP.region ?_
    refine GOps.r rfl rfl rfl rfl (grd_fieldAddr tab_is rfl rfl rfl rfl rfl) ?_
    focus
      refine GOps.r rfl rfl rfl rfl (grd_load1 (b := ?_) (v := ?_) tab_is rfl rfl rfl rfl ?_ ?_) ?_
      rotate_left 2
      refine (Hp.at_push_lt ?_).trans ?_
      · simp; done
      refine Hp.at_put_eq ?_
      · simp; done
      · rfl
    refine GOps.nil ?_
    refine GWP.block ?_
    refine GWP.seq ?_
    refine GWP.region ?_
    refine GOps.r rfl rfl rfl rfl (grd_eql rfl rfl rfl) ?_
    refine GOps.r rfl rfl rfl rfl (grd_assign rfl rfl) ?_
    refine GOps.nil ?_
    refine GWP.cond_t rfl ?_ ?_
    · exact decide_eq_true (by omega)
    refine GWP.seq ?_
    refine GWP.region ?_
    refine GOps.r rfl rfl rfl rfl (grd_move rfl rfl) ?_
    focus
      refine GOps.w rfl rfl rfl rfl (gop_call rfl Try.call27 rfl ?_ (g_rnumG _ _ _ h1 _ ?_ _ _ ?_ ?_ ?_)) ?_
      · simp [Ctx.may]; omega
      · omega
      rotate_left 2
      refine rg_mk (b := ?_) ?_ ?_ ?_ ?_
      rotate_left 1
      refine Hp.at_push_id ?_
      · simp; done
      · rfl
      focus
        refine BS.ext (by assumption) ?_
        refine HExt.push ?_
        · exact HExt.refl _ _
      · simp only; omega
    rintro _ Hxb6 ⟨rfl, ⟨pb2, cb3, rb4⟩, kb5, xb6⟩
    have xb6l := HExt.len xb6; try simp at xb6l
    have rb4g := RG.hg rb4; unfold rdBlk at rb4g; have rb4q := Hp.at_lt rb4g
    refine GOps.r rfl rfl rfl rfl (grd_conv_in tab_is rfl rfl rfl rfl rfl ?_) ?_
    · refine wrap_i64_in ?_; omega
    refine GOps.r rfl rfl rfl rfl (grd_fieldAddr tab_is rfl rfl rfl rfl rfl) ?_
    focus
      refine GOps.s rfl rfl rfl (gop_store1 (b := ?_) tab_is rfl rfl rfl rfl rfl rfl ?_ ?_ ?_ ?_) ?_
      rotate_left 1
      refine (HExt.eq (by assumption) _ ?_ ?_).trans ?_
      · simp; done
      · simp; done
      refine (Hp.at_push_lt ?_).trans ?_
      · simp; done
      refine Hp.at_put_eq ?_
      · simp; done
      · rfl
      · decide
      · exact .inr (by simp)
    refine GOps.nil ?_
    refine GWP.region ?_
    refine GOps.r rfl rfl rfl rfl (grd_move rfl rfl) ?_
    focus
      refine GOps.w rfl rfl rfl rfl (gop_call rfl Try.call27 rfl ?_ (g_rnumG _ _ _ h2 _ ?_ _ _ ?_ ?_ ?_)) ?_
      · simp [Ctx.may]; omega
      · omega
      rotate_left 2
      refine rg_ne (b := ?_) ?_ ?_ ?_ ?_
      rotate_left 1
      focus
        · assumption
      refine (HExt.eq (by assumption) _ ?_ ?_).trans ?_
      · simp; done
      · simp; done
      refine (Hp.at_push_lt ?_).trans ?_
      · simp; done
      refine Hp.at_put_eq ?_
      · simp; done
      · omega
      · rfl
    rintro _ Hxb11 ⟨rfl, ⟨pb7, cb8, rb9⟩, kb10, xb11⟩
    have xb11l := HExt.len xb11; try simp at xb11l
    have rb9g := RG.hg rb9; unfold rdBlk at rb9g; have rb9q := Hp.at_lt rb9g
    refine GOps.r rfl rfl rfl rfl (grd_conv_in tab_is rfl rfl rfl rfl rfl ?_) ?_
    · refine wrap_i64_in ?_; omega
    refine GOps.r rfl rfl rfl rfl (grd_fieldAddr tab_is rfl rfl rfl rfl rfl) ?_
    focus
      refine GOps.s rfl rfl rfl (gop_store1 (b := ?_) tab_is rfl rfl rfl rfl rfl rfl ?_ ?_ ?_ ?_) ?_
      rotate_left 1
      refine (HExt.eq (by assumption) _ ?_ ?_).trans ?_
      · simp; omega
      · simp; done
      refine Hp.at_put_eq ?_
      · omega
      · rfl
      · exact Nat.le_of_ble_eq_true rfl
      · exact .inr (by simp)
    refine GOps.nil ?_
    refine GWP.seq ?_
    refine GWP.region ?_
    focus
      refine GOps.r rfl rfl rfl rfl (grd_loadNK (b := ?_) (cs := ?_) tab_is rfl rfl rfl rfl ?_ ?_ ?_) ?_
      rotate_left 2
      refine Hp.at_put_eq ?_
      · omega
      · exact Nat.le_of_ble_eq_true rfl
      · simp [Value.cells]; rfl
    refine GOps.w rfl rfl rfl rfl (gop_call rfl Try.call15 rfl ?_ (g_right1 _ _ _ ?_ ?_)) ?_
    · intro _ h; cases h; done
    · omega
    · omega
    rintro _ Hxb12 ⟨rfl, xb12⟩
    have xb12l := HExt.len xb12; try simp at xb12l
    refine GOps.r rfl rfl rfl rfl (grd_assign rfl rfl) ?_
    refine GOps.nil ?_
    refine GWP.seq ?_
    refine GWP.seq ?_
    refine GWP.region ?_
    refine GOps.r rfl rfl rfl rfl (grd_move rfl rfl) ?_
    refine GOps.r rfl rfl rfl rfl (grd_nil rfl rfl) ?_
    refine GOps.r rfl rfl rfl rfl (grd_fieldAddr tab_is rfl rfl rfl rfl rfl) ?_
    focus
      refine GOps.r rfl rfl rfl rfl (grd_load1 (b := ?_) (v := ?_) tab_is rfl rfl rfl rfl ?_ ?_) ?_
      rotate_left 2
      refine (HExt.eq (by assumption) _ ?_ ?_).trans ?_
      · simp; omega
      · intro h; cases h; done
      refine (Hp.at_put_ne ?_).trans ?_
      · omega
      · assumption
      · rfl
    refine GOps.r rfl rfl rfl rfl (grd_neq rfl rfl rfl) ?_
    refine GOps.r rfl rfl rfl rfl (grd_move rfl rfl) ?_
    refine GOps.split rfl rfl (fun b13 => ?_) (fun b13 => ?_)
    simp only [beq_true, beq_false, Bool.not_true, Bool.not_false, Bool.not_eq_true', Bool.not_eq_false', decide_eq_true_eq, decide_eq_false_iff_not] at b13
    refine GOps.take rfl rfl ?_ ?_
    · exact beq_iff_eq.2 (decide_eq_false (by assumption))
    refine GOps.r rfl rfl rfl rfl (grd_move rfl rfl) ?_
    refine GOps.take rfl rfl ?_ ?_
    · exact beq_iff_eq.2 (decide_eq_false (by assumption))
    refine GOps.r rfl rfl rfl rfl (grd_nil rfl rfl) ?_
    refine GOps.take rfl rfl ?_ ?_
    · exact beq_iff_eq.2 (decide_eq_false (by assumption))
    refine GOps.r rfl rfl rfl rfl (grd_fieldAddr tab_is rfl rfl rfl rfl rfl) ?_
    refine GOps.take rfl rfl ?_ ?_
    · exact beq_iff_eq.2 (decide_eq_false (by assumption))
    focus
      refine GOps.r rfl rfl rfl rfl (grd_load1 (b := ?_) (v := ?_) tab_is rfl rfl rfl rfl ?_ ?_) ?_
      rotate_left 2
      refine (HExt.eq (by assumption) _ ?_ ?_).trans ?_
      · simp; omega
      · intro h; cases h; done
      refine (Hp.at_put_ne ?_).trans ?_
      · omega
      · assumption
      · rfl
    refine GOps.take rfl rfl ?_ ?_
    · exact beq_iff_eq.2 (decide_eq_false (by assumption))
    refine GOps.r rfl rfl rfl rfl (grd_len tab_is rfl rfl rfl rfl rfl) ?_
    refine GOps.take rfl rfl ?_ ?_
    · exact beq_iff_eq.2 (decide_eq_false (by assumption))
    refine GOps.r rfl rfl rfl rfl (grd_gtr rfl rfl rfl) ?_
    refine GOps.r rfl rfl rfl rfl (grd_pick_f rfl rfl ?_ rfl) ?_
    · exact decide_eq_false (by assumption)
    refine GOps.r rfl rfl rfl rfl (grd_move rfl rfl) ?_
    refine GOps.split rfl rfl (fun b14 => ?_) (fun b14 => ?_)
    simp only [beq_true, beq_false, Bool.not_true, Bool.not_false, Bool.not_eq_true', Bool.not_eq_false', decide_eq_true_eq, decide_eq_false_iff_not] at b14
    refine GOps.take rfl rfl ?_ ?_
    · exact beq_iff_eq.2 (decide_eq_false (by assumption))
    refine GOps.r rfl rfl rfl rfl (grd_move rfl rfl) ?_
    refine GOps.take rfl rfl ?_ ?_
    · exact beq_iff_eq.2 (decide_eq_false (by assumption))
    refine GOps.r rfl rfl rfl rfl (grd_not rfl rfl) ?_
    refine GOps.r rfl rfl rfl rfl (grd_pick_f rfl rfl ?_ rfl) ?_
    · exact decide_eq_false (by assumption)
    refine GOps.nil ?_
    refine GWP.cond_f rfl ?_ ?_
    · simp; done
    refine GWP.skip ?_
    refine GWP.seq ?_
    refine GWP.region ?_
    focus
      refine GOps.r rfl rfl rfl rfl (grd_loadNK (b := ?_) (cs := ?_) tab_is rfl rfl rfl rfl ?_ ?_ ?_) ?_
      rotate_left 2
      refine (HExt.eq (by assumption) _ ?_ ?_).trans ?_
      · simp; omega
      · intro h; cases h; done
      refine Hp.at_put_eq ?_
      · omega
      · exact Nat.le_of_ble_eq_true rfl
      · simp [Value.cells]; rfl
    focus
      refine GOps.s rfl rfl rfl (gop_storeC (b := ?_) (cs := ?_) tab_is rfl rfl ?_ rfl rfl ?_ ?_ ?_ ?_ ?_ ?_) ?_
      rotate_left 2
      · rfl
      · rfl
      refine (HExt.eq (by assumption) _ ?_ ?_).trans ?_
      · simp; omega
      · intro h; cases h; done
      refine (Hp.at_put_ne ?_).trans ?_
      · omega
      refine (HExt.eq (by assumption) _ ?_ ?_).trans ?_
      · simp; omega
      · simp; omega
      refine (Hp.at_put_ne ?_).trans ?_
      · omega
      refine (HExt.eq (by assumption) _ ?_ ?_).trans ?_
      · simp; omega
      · simp; omega
      refine (Hp.at_push_lt ?_).trans ?_
      · simp; omega
      refine (Hp.at_put_ne ?_).trans ?_
      · omega
      refine (Hp.at_push_lt ?_).trans ?_
      · simp; done
      · exact Hp.at_push_eq
      · rfl
      · exact Nat.le_of_ble_eq_true rfl
      · exact .inr (by simp)
      · simp [splice, Value.cells]; rfl
    refine GOps.r rfl rfl rfl rfl (grd_assign rfl rfl) ?_
    refine GOps.nil ?_
    refine GWP.ret ?_
    focus
      refine ⟨_, (.two (gres_cellNK (b := ?_) (cs := ?_) rfl rfl rfl ?_ ?_ ?_) (.one rfl)), ?_⟩
      rotate_left 2
      refine Hp.at_put_eq ?_
      · omega
      · exact Nat.le_of_ble_eq_true rfl
      · simp [Value.cells]; rfl
    refine ⟨?_, ?_⟩
    · rw [if_neg (by omega)]; rfl
    refine HExt.put ?_ ?_
    refine HExt.tr ?_ (by assumption) ?_
    refine HExt.put ?_ ?_
    refine HExt.tr ?_ (by assumption) ?_
    refine HExt.put ?_ ?_
    refine HExt.tr ?_ (by assumption) ?_
    refine HExt.push ?_
    refine HExt.put ?_ ?_
    refine HExt.push ?_
    refine HExt.push ?_
    · exact HExt.refl _ _
    · exact .inr (by omega)
    · simp; omega
    · exact .inr (by omega)
    · simp; omega
    · exact .inr (by omega)
    · intro _ h; cases h; done
    · exact .inr (by omega)
    simp only [beq_true, beq_false, Bool.not_true, Bool.not_false, Bool.not_eq_true', Bool.not_eq_false', decide_eq_true_eq, decide_eq_false_iff_not] at b14
    refine GOps.no rfl ?_ rfl rfl ?_
    · exact beq_eq_false_iff_ne.2 (by rw [decide_eq_true (by assumption)]; decide)
    refine GOps.no rfl ?_ rfl rfl ?_
    · exact beq_eq_false_iff_ne.2 (by rw [decide_eq_true (by assumption)]; decide)
    refine GOps.r rfl rfl rfl rfl (grd_pick_t rfl rfl ?_ rfl) ?_
    · exact decide_eq_true (by assumption)
    refine GOps.nil ?_
    refine GWP.cond_t rfl ?_ ?_
    · with_reducible rfl
    refine GWP.seq ?_
    refine GWP.region ?_
    focus
      refine GOps.r rfl rfl rfl rfl (grd_build (cs := ?_) tab_is rfl rfl rfl ?_ rfl ?_) ?_
      rotate_left 1
      · decide
      · simp [gfill, gsets, Value.cells]; rfl
    focus
      refine GOps.s rfl rfl rfl (gop_storeC (b := ?_) (cs := ?_) tab_is rfl rfl ?_ rfl rfl ?_ ?_ ?_ ?_ ?_ ?_) ?_
      rotate_left 2
      · rfl
      · rfl
      refine (HExt.eq (by assumption) _ ?_ ?_).trans ?_
      · simp; omega
      · intro h; cases h; done
      refine (Hp.at_put_ne ?_).trans ?_
      · omega
      refine (HExt.eq (by assumption) _ ?_ ?_).trans ?_
      · simp; omega
      · simp; omega
      refine (Hp.at_put_ne ?_).trans ?_
      · omega
      refine (HExt.eq (by assumption) _ ?_ ?_).trans ?_
      · simp; omega
      · simp; omega
      refine (Hp.at_push_lt ?_).trans ?_
      · simp; omega
      refine (Hp.at_put_ne ?_).trans ?_
      · omega
      refine (Hp.at_push_lt ?_).trans ?_
      · simp; done
      · exact Hp.at_push_eq
      · rfl
      · decide
      · exact .inr (by simp)
      · simp [splice, Value.cells]; rfl
    refine GOps.r rfl rfl rfl rfl (grd_assign rfl rfl) ?_
    refine GOps.nil ?_
    refine GWP.ret ?_
    focus
      refine ⟨_, (.two (gres_cellNK (b := ?_) (cs := ?_) rfl rfl rfl ?_ ?_ ?_) (.one rfl)), ?_⟩
      rotate_left 2
      refine Hp.at_put_eq ?_
      · omega
      · decide
      · simp [Value.cells]; rfl
    refine ⟨?_, ?_⟩
    · rw [if_pos (by omega)]; rfl
    refine HExt.put ?_ ?_
    refine HExt.tr ?_ (by assumption) ?_
    refine HExt.put ?_ ?_
    refine HExt.tr ?_ (by assumption) ?_
    refine HExt.put ?_ ?_
    refine HExt.tr ?_ (by assumption) ?_
    refine HExt.push ?_
    refine HExt.put ?_ ?_
    refine HExt.push ?_
    refine HExt.push ?_
    · exact HExt.refl _ _
    · exact .inr (by omega)
    · simp; omega
    · exact .inr (by omega)
    · simp; omega
    · exact .inr (by omega)
    · intro _ h; cases h; done
    · exact .inr (by omega)
    simp only [beq_true, beq_false, Bool.not_true, Bool.not_false, Bool.not_eq_true', Bool.not_eq_false', decide_eq_true_eq, decide_eq_false_iff_not] at b13
    refine GOps.no rfl ?_ rfl rfl ?_
    · exact beq_eq_false_iff_ne.2 (by rw [decide_eq_true (by assumption)]; decide)
    refine GOps.no rfl ?_ rfl rfl ?_
    · exact beq_eq_false_iff_ne.2 (by rw [decide_eq_true (by assumption)]; decide)
    refine GOps.no rfl ?_ rfl rfl ?_
    · exact beq_eq_false_iff_ne.2 (by rw [decide_eq_true (by assumption)]; decide)
    refine GOps.no rfl ?_ rfl rfl ?_
    · exact beq_eq_false_iff_ne.2 (by rw [decide_eq_true (by assumption)]; decide)
    refine GOps.no rfl ?_ rfl rfl ?_
    · exact beq_eq_false_iff_ne.2 (by rw [decide_eq_true (by assumption)]; decide)
    refine GOps.no rfl ?_ rfl rfl ?_
    · exact beq_eq_false_iff_ne.2 (by rw [decide_eq_true (by assumption)]; decide)
    refine GOps.r rfl rfl rfl rfl (grd_pick_t rfl rfl ?_ rfl) ?_
    · exact decide_eq_true (by assumption)
    refine GOps.r rfl rfl rfl rfl (grd_move rfl rfl) ?_
    refine GOps.no rfl ?_ rfl rfl ?_
    · simp; done
    refine GOps.no rfl ?_ rfl rfl ?_
    · simp; done
    refine GOps.r rfl rfl rfl rfl (grd_pick_t rfl rfl ?_ rfl) ?_
    · with_reducible rfl
    refine GOps.nil ?_
    refine GWP.cond_t rfl ?_ ?_
    · with_reducible rfl
    refine GWP.seq ?_
    refine GWP.region ?_
    focus
      refine GOps.r rfl rfl rfl rfl (grd_build (cs := ?_) tab_is rfl rfl rfl ?_ rfl ?_) ?_
      rotate_left 1
      · decide
      · simp [gfill, gsets, Value.cells]; rfl
    focus
      refine GOps.s rfl rfl rfl (gop_storeC (b := ?_) (cs := ?_) tab_is rfl rfl ?_ rfl rfl ?_ ?_ ?_ ?_ ?_ ?_) ?_
      rotate_left 2
      · rfl
      · rfl
      refine (HExt.eq (by assumption) _ ?_ ?_).trans ?_
      · simp; omega
      · intro h; cases h; done
      refine (Hp.at_put_ne ?_).trans ?_
      · omega
      refine (HExt.eq (by assumption) _ ?_ ?_).trans ?_
      · simp; omega
      · simp; omega
      refine (Hp.at_put_ne ?_).trans ?_
      · omega
      refine (HExt.eq (by assumption) _ ?_ ?_).trans ?_
      · simp; omega
      · simp; omega
      refine (Hp.at_push_lt ?_).trans ?_
      · simp; omega
      refine (Hp.at_put_ne ?_).trans ?_
      · omega
      refine (Hp.at_push_lt ?_).trans ?_
      · simp; done
      · exact Hp.at_push_eq
      · rfl
      · decide
      · exact .inr (by simp)
      · simp [splice, Value.cells]; rfl
    refine GOps.r rfl rfl rfl rfl (grd_assign rfl rfl) ?_
    refine GOps.nil ?_
    refine GWP.ret ?_
    focus
      refine ⟨_, (.two (gres_cellNK (b := ?_) (cs := ?_) rfl rfl rfl ?_ ?_ ?_) (.one rfl)), ?_⟩
      rotate_left 2
      refine Hp.at_put_eq ?_
      · omega
      · decide
      · simp [Value.cells]; rfl
    refine ⟨?_, ?_⟩
    · rw [if_pos (by omega)]; rfl
    refine HExt.put ?_ ?_
    refine HExt.tr ?_ (by assumption) ?_
    refine HExt.put ?_ ?_
    refine HExt.tr ?_ (by assumption) ?_
    refine HExt.put ?_ ?_
    refine HExt.tr ?_ (by assumption) ?_
    refine HExt.push ?_
    refine HExt.put ?_ ?_
    refine HExt.push ?_
    refine HExt.push ?_
    · exact HExt.refl _ _
    · exact .inr (by omega)
    · simp; omega
    · exact .inr (by omega)
    · simp; omega
    · exact .inr (by omega)
    · intro _ h; cases h; done
    · exact .inr (by omega)
set_option maxHeartbeats 4000000 in
set_option maxRecDepth 100000 in
set_option linter.unusedSimpArgs false in
theorem g_rpar3 (H : Hp) (p : Option Addr) (n c : Nat) (M : List UInt8) (hb : BS H (.slice p n c) (3 :: M)) (hn : n ≤ 35184372088832) (r1 r2 : Nat × RdS) (h1 : RdS.number ⟨M, 0⟩ 255 = r1) (h2 : r1.2.number 256 = r2) : GCalls Try.prog 40 [.slice p n c] [] H fun v H' => v = (if r2.2.e ≠ 0 ∨ 0 < r2.2.l.length ∨ r2.1 ≤ r1.1 then .tuple #[recT 0 0 0 0 0 [] 0 0 0, .bool false] else .tuple #[recT 3 0 0 r1.1 r2.1 [] 0 0 0, .bool true]) ∧ HExt [] H H' := by
  have hl := hb.len
  simp only [List.length_cons] at hl
  subst hl
  have t1 := numG_le h1
  have t2 := numG_le h2
  refine GCalls.body tab_is Try.func40 rfl Try.results40 Try.ntmps40 (by simp) ?_ ?_
  · first | (intro _ h; cases h; done) | (simp; done) | (simp; omega) | (intro i hi; simp at hi; rcases hi with rfl | rfl <;> omega) | (intro i hi; simp at hi; rcases hi with rfl | rfl | rfl <;> omega)
  focus
    refine GWP.seq ?_
    refine GWP.region ?_
    focus
      refine GOps.w1 rfl rfl rfl rfl (gop_alloc' (id := ?_) ?_ tab_is rfl rfl ?_) ?_
      rotate_left 1
      · rfl
      · decide
    refine GOps.r rfl rfl rfl rfl (grd_assign rfl rfl) ?_
    refine GOps.nil ?_
    refine GWP.seq ?_
    refine GWP.seq ?_
    refine GWP.region ?_
    refine GOps.r rfl rfl rfl rfl (grd_move rfl rfl) ?_
    refine GOps.r rfl rfl rfl rfl (grd_len tab_is rfl rfl rfl rfl rfl) ?_
    refine GOps.r rfl rfl rfl rfl (grd_eql rfl rfl rfl) ?_
    refine GOps.nil ?_
    refine GWP.cond_f rfl ?_ ?_
    · exact decide_eq_false (by omega)
    refine GWP.skip ?_
    refine GWP.seq ?_
    refine GWP.region ?_
    refine GOps.r rfl rfl rfl rfl (grd_move rfl rfl) ?_
    focus
      refine GOps.r rfl rfl rfl rfl (grd_indexBS (q := ?_) (L := ?_) tab_is rfl rfl rfl rfl rfl ?_ ?_ ?_) ?_
      rotate_left 2
      focus
        refine BS.ext (by assumption) ?_
        refine HExt.push ?_
        · exact HExt.refl _ _
      · rfl
      · exact Nat.le_of_ble_eq_true rfl
    focus
      refine GOps.re rfl rfl rfl rfl (grd_loadBSK (n := ?_) (c := ?_) (L := ?_) (u := ?_) tab_is rfl rfl rfl rfl ?_ ?_ ?_) ?_
      rotate_left 4
      focus
        refine BS.ext (by assumption) ?_
        refine HExt.push ?_
        · exact HExt.refl _ _
      · exact Nat.le_of_ble_eq_true rfl
      · simp only [List.getD_cons_zero]; rfl
    focus
      refine GOps.r rfl rfl rfl rfl (grd_build (cs := ?_) tab_is rfl rfl rfl ?_ rfl ?_) ?_
      rotate_left 1
      · decide
      · simp [gfill, gsets, Value.cells]; rfl
    focus
      refine GOps.w1 rfl rfl rfl rfl (gop_alloc' (id := ?_) ?_ tab_is rfl rfl ?_) ?_
      rotate_left 1
      · simp; rfl
      · decide
    focus
      refine GOps.s rfl rfl rfl (gop_storeC (b := ?_) (cs := ?_) tab_is rfl rfl ?_ rfl rfl ?_ ?_ ?_ ?_ ?_ ?_) ?_
      rotate_left 2
      · rfl
      · rfl
      refine Hp.at_push_id ?_
      · simp; done
      · rfl
      · decide
      · exact .inr (by simp)
      · simp [splice, Value.cells]; rfl
    refine GOps.nil ?_
    refine GWP.seq ?_
    refine GWP.region ?_
    refine GOps.r rfl rfl rfl rfl (grd_move rfl rfl) ?_
    focus
      refine gops_bs rfl rfl rfl rfl (grd_slBS (l := ?_) (h := ?_) (m2 := ?_) (L := ?_) (M := ?_) tab_is rfl rfl rfl rfl ?_ ?_ ?_ ?_ ?_ ?_ ?_) ?_
      rotate_left 5
      focus
        refine BS.ext (by assumption) ?_
        refine HExt.put ?_ ?_
        refine HExt.push ?_
        refine HExt.push ?_
        · exact HExt.refl _ _
        · exact .inr (by omega)
      · refine gbound_const ?_; exact rfl
      · exact rfl
      · exact Nat.le_of_ble_eq_true rfl
      · omega
      · simp; rfl
      · refine Eq.trans (List.take_of_length_le ?_) ?_; rotate_left 1; rfl; (simp; done)
    intro pc1 cc1 c1
    have c1n := BS.len c1
    focus
      refine GOps.r rfl rfl rfl rfl (grd_build (cs := ?_) tab_is rfl rfl rfl ?_ rfl ?_) ?_
      rotate_left 1
      · decide
      · simp [gfill, gsets, Value.cells]; rfl
    focus
      refine GOps.w1 rfl rfl rfl rfl (gop_box' (id := ?_) ?_ rfl rfl rfl) ?_
      rotate_left 1
      · simp; rfl
    refine GOps.r rfl rfl rfl rfl (grd_assign rfl rfl) ?_
    refine GOps.nil ?_
    refine GWP.seq ?_
    refine GWP.region ?_
    refine GOps.r rfl rfl rfl rfl (grd_assign rfl rfl) ?_
    refine GOps.nil ?_
    refine GWP.seq ?_
    refine GWP.seq ?_
    refine GWP.region ?_
    refine GOps.r rfl rfl rfl rfl (grd_fieldAddr tab_is rfl rfl rfl rfl rfl) ?_
    focus
      refine GOps.r rfl rfl rfl rfl (grd_load1 (b := ?_) (v := ?_) tab_is rfl rfl rfl rfl ?_ ?_) ?_
      rotate_left 2
      refine (Hp.at_push_lt ?_).trans ?_
      · simp; done
      refine Hp.at_put_eq ?_
      · simp; done
      · rfl
    refine GOps.nil ?_
    refine GWP.block ?_
    refine GWP.seq ?_
    refine GWP.region ?_
    refine GOps.r rfl rfl rfl rfl (grd_eql rfl rfl rfl) ?_
    refine GOps.r rfl rfl rfl rfl (grd_assign rfl rfl) ?_
    refine GOps.nil ?_
    refine GWP.cond_f rfl ?_ ?_
    · exact decide_eq_false (by omega)
    refine GWP.seq ?_
    refine GWP.region ?_
    refine GOps.r rfl rfl rfl rfl (grd_eql rfl rfl rfl) ?_
    refine GOps.r rfl rfl rfl rfl (grd_assign rfl rfl) ?_
    refine GOps.nil ?_
    refine GWP.cond_f rfl ?_ ?_
    · exact decide_eq_false (by omega)
    refine GWP.seq ?_
    refine GWP.region ?_
    refine GOps.r rfl rfl rfl rfl (grd_eql rfl rfl rfl) ?_
    refine GOps.r rfl rfl rfl rfl (grd_assign rfl rfl) ?_
    refine GOps.nil ?_
    refine GWP.cond_t rfl ?_ ?_
    · exact decide_eq_true (by omega)
    refine GWP.seq ?_
    refine GWP.region ?_
    refine GOps.r rfl rfl rfl rfl (grd_move rfl rfl) ?_
    focus
      refine GOps.w rfl rfl rfl rfl (gop_call rfl Try.call27 rfl ?_ (g_rnumG _ _ _ h1 _ ?_ _ _ ?_ ?_ ?_)) ?_
      · simp [Ctx.may]; omega
      · omega
      rotate_left 2
      refine rg_mk (b := ?_) ?_ ?_ ?_ ?_
      rotate_left 1
      refine Hp.at_push_id ?_
      · simp; done
      · rfl
      focus
        refine BS.ext (by assumption) ?_
        refine HExt.push ?_
        · exact HExt.refl _ _
      · simp only; omega
    rintro _ Hxc6 ⟨rfl, ⟨pc2, cc3, rc4⟩, kc5, xc6⟩
    have xc6l := HExt.len xc6; try simp at xc6l
    have rc4g := RG.hg rc4; unfold rdBlk at rc4g; have rc4q := Hp.at_lt rc4g
    refine GOps.r rfl rfl rfl rfl (grd_conv_in tab_is rfl rfl rfl rfl rfl ?_) ?_
    · refine wrap_i64_in ?_; omega
    refine GOps.r rfl rfl rfl rfl (grd_fieldAddr tab_is rfl rfl rfl rfl rfl) ?_
    focus
      refine GOps.s rfl rfl rfl (gop_store1 (b := ?_) tab_is rfl rfl rfl rfl rfl rfl ?_ ?_ ?_ ?_) ?_
      rotate_left 1
      refine (HExt.eq (by assumption) _ ?_ ?_).trans ?_
      · simp; done
      · simp; done
      refine (Hp.at_push_lt ?_).trans ?_
      · simp; done
      refine Hp.at_put_eq ?_
      · simp; done
      · rfl
      · decide
      · exact .inr (by simp)
    refine GOps.nil ?_
    refine GWP.region ?_
    refine GOps.r rfl rfl rfl rfl (grd_move rfl rfl) ?_
    focus
      refine GOps.w rfl rfl rfl rfl (gop_call rfl Try.call27 rfl ?_ (g_rnumG _ _ _ h2 _ ?_ _ _ ?_ ?_ ?_)) ?_
      · simp [Ctx.may]; omega
      · omega
      rotate_left 2
      refine rg_ne (b := ?_) ?_ ?_ ?_ ?_
      rotate_left 1
      focus
        · assumption
      refine (HExt.eq (by assumption) _ ?_ ?_).trans ?_
      · simp; done
      · simp; done
      refine (Hp.at_push_lt ?_).trans ?_
      · simp; done
      refine Hp.at_put_eq ?_
      · simp; done
      · omega
      · rfl
    rintro _ Hxc11 ⟨rfl, ⟨pc7, cc8, rc9⟩, kc10, xc11⟩
    have xc11l := HExt.len xc11; try simp at xc11l
    have rc9g := RG.hg rc9; unfold rdBlk at rc9g; have rc9q := Hp.at_lt rc9g
    refine GOps.r rfl rfl rfl rfl (grd_conv_in tab_is rfl rfl rfl rfl rfl ?_) ?_
    · refine wrap_i64_in ?_; omega
    refine GOps.r rfl rfl rfl rfl (grd_fieldAddr tab_is rfl rfl rfl rfl rfl) ?_
    focus
      refine GOps.s rfl rfl rfl (gop_store1 (b := ?_) tab_is rfl rfl rfl rfl rfl rfl ?_ ?_ ?_ ?_) ?_
      rotate_left 1
      refine (HExt.eq (by assumption) _ ?_ ?_).trans ?_
      · simp; omega
      · simp; done
      refine Hp.at_put_eq ?_
      · omega
      · rfl
      · exact Nat.le_of_ble_eq_true rfl
      · exact .inr (by simp)
    refine GOps.nil ?_
    refine GWP.seq ?_
    refine GWP.region ?_
    focus
      refine GOps.r rfl rfl rfl rfl (grd_loadNK (b := ?_) (cs := ?_) tab_is rfl rfl rfl rfl ?_ ?_ ?_) ?_
      rotate_left 2
      refine Hp.at_put_eq ?_
      · omega
      · exact Nat.le_of_ble_eq_true rfl
      · simp [Value.cells]; rfl
    refine GOps.w rfl rfl rfl rfl (gop_call rfl Try.call15 rfl ?_ (g_right3 _ _ _ ?_ ?_)) ?_
    · intro _ h; cases h; done
    · omega
    · omega
    rintro _ Hxc12 ⟨rfl, xc12⟩
    have xc12l := HExt.len xc12; try simp at xc12l
    refine GOps.r rfl rfl rfl rfl (grd_assign rfl rfl) ?_
    refine GOps.nil ?_
    refine GWP.seq ?_
    refine GWP.seq ?_
    refine GWP.region ?_
    refine GOps.r rfl rfl rfl rfl (grd_move rfl rfl) ?_
    refine GOps.r rfl rfl rfl rfl (grd_nil rfl rfl) ?_
    refine GOps.r rfl rfl rfl rfl (grd_fieldAddr tab_is rfl rfl rfl rfl rfl) ?_
    focus
      refine GOps.r rfl rfl rfl rfl (grd_load1 (b := ?_) (v := ?_) tab_is rfl rfl rfl rfl ?_ ?_) ?_
      rotate_left 2
      refine (HExt.eq (by assumption) _ ?_ ?_).trans ?_
      · simp; omega
      · intro h; cases h; done
      refine (Hp.at_put_ne ?_).trans ?_
      · omega
      · assumption
      · rfl
    refine GOps.r rfl rfl rfl rfl (grd_neq rfl rfl rfl) ?_
    refine GOps.r rfl rfl rfl rfl (grd_move rfl rfl) ?_
    refine GOps.split rfl rfl (fun c13 => ?_) (fun c13 => ?_)
    simp only [beq_true, beq_false, Bool.not_true, Bool.not_false, Bool.not_eq_true', Bool.not_eq_false', decide_eq_true_eq, decide_eq_false_iff_not] at c13
    refine GOps.take rfl rfl ?_ ?_
    · exact beq_iff_eq.2 (decide_eq_false (by assumption))
    refine GOps.r rfl rfl rfl rfl (grd_move rfl rfl) ?_
    refine GOps.take rfl rfl ?_ ?_
    · exact beq_iff_eq.2 (decide_eq_false (by assumption))
    refine GOps.r rfl rfl rfl rfl (grd_nil rfl rfl) ?_
    refine GOps.take rfl rfl ?_ ?_
    · exact beq_iff_eq.2 (decide_eq_false (by assumption))
    refine GOps.r rfl rfl rfl rfl (grd_fieldAddr tab_is rfl rfl rfl rfl rfl) ?_
    refine GOps.take rfl rfl ?_ ?_
    · exact beq_iff_eq.2 (decide_eq_false (by assumption))
    focus
      refine GOps.r rfl rfl rfl rfl (grd_load1 (b := ?_) (v := ?_) tab_is rfl rfl rfl rfl ?_ ?_) ?_
      rotate_left 2
      refine (HExt.eq (by assumption) _ ?_ ?_).trans ?_
      · simp; omega
      · intro h; cases h; done
      refine (Hp.at_put_ne ?_).trans ?_
      · omega
      · assumption
      · rfl
    refine GOps.take rfl rfl ?_ ?_
    · exact beq_iff_eq.2 (decide_eq_false (by assumption))
    refine GOps.r rfl rfl rfl rfl (grd_len tab_is rfl rfl rfl rfl rfl) ?_
    refine GOps.take rfl rfl ?_ ?_
    · exact beq_iff_eq.2 (decide_eq_false (by assumption))
    refine GOps.r rfl rfl rfl rfl (grd_gtr rfl rfl rfl) ?_
    refine GOps.r rfl rfl rfl rfl (grd_pick_f rfl rfl ?_ rfl) ?_
    · exact decide_eq_false (by assumption)
    refine GOps.r rfl rfl rfl rfl (grd_move rfl rfl) ?_
    refine GOps.split rfl rfl (fun c14 => ?_) (fun c14 => ?_)
    simp only [beq_true, beq_false, Bool.not_true, Bool.not_false, Bool.not_eq_true', Bool.not_eq_false', decide_eq_true_eq, decide_eq_false_iff_not] at c14
    refine GOps.take rfl rfl ?_ ?_
    · exact beq_iff_eq.2 (decide_eq_false (by assumption))
    refine GOps.r rfl rfl rfl rfl (grd_move rfl rfl) ?_
    refine GOps.take rfl rfl ?_ ?_
    · exact beq_iff_eq.2 (decide_eq_false (by assumption))
    refine GOps.r rfl rfl rfl rfl (grd_not rfl rfl) ?_
    refine GOps.r rfl rfl rfl rfl (grd_pick_f rfl rfl ?_ rfl) ?_
    · exact decide_eq_false (by assumption)
    refine GOps.nil ?_
    refine GWP.cond rfl (fun c15 => ?_) (fun c15 => ?_)
    simp only [beq_true, beq_false, Bool.not_true, Bool.not_false, Bool.not_eq_true', Bool.not_eq_false', decide_eq_true_eq, decide_eq_false_iff_not] at c15
    refine GWP.seq ?_
    refine GWP.region ?_
    focus
      refine GOps.r rfl rfl rfl rfl (grd_build (cs := ?_) tab_is rfl rfl rfl ?_ rfl ?_) ?_
      rotate_left 1
      · decide
      · simp [gfill, gsets, Value.cells]; rfl
    focus
      refine GOps.s rfl rfl rfl (gop_storeC (b := ?_) (cs := ?_) tab_is rfl rfl ?_ rfl rfl ?_ ?_ ?_ ?_ ?_ ?_) ?_
      rotate_left 2
      · rfl
      · rfl
      refine (HExt.eq (by assumption) _ ?_ ?_).trans ?_
      · simp; omega
      · intro h; cases h; done
      refine (Hp.at_put_ne ?_).trans ?_
      · omega
      refine (HExt.eq (by assumption) _ ?_ ?_).trans ?_
      · simp; omega
      · simp; omega
      refine (Hp.at_put_ne ?_).trans ?_
      · omega
      refine (HExt.eq (by assumption) _ ?_ ?_).trans ?_
      · simp; omega
      · simp; omega
      refine (Hp.at_push_lt ?_).trans ?_
      · simp; omega
      refine (Hp.at_put_ne ?_).trans ?_
      · omega
      refine (Hp.at_push_lt ?_).trans ?_
      · simp; done
      · exact Hp.at_push_eq
      · rfl
      · decide
      · exact .inr (by simp)
      · simp [splice, Value.cells]; rfl
    refine GOps.r rfl rfl rfl rfl (grd_assign rfl rfl) ?_
    refine GOps.nil ?_
    refine GWP.ret ?_
    focus
      refine ⟨_, (.two (gres_cellNK (b := ?_) (cs := ?_) rfl rfl rfl ?_ ?_ ?_) (.one rfl)), ?_⟩
      rotate_left 2
      refine Hp.at_put_eq ?_
      · omega
      · decide
      · simp [Value.cells]; rfl
    refine ⟨?_, ?_⟩
    · rw [if_pos (by simp only [decide_eq_true_eq, decide_eq_false_iff_not] at *; omega)]; rfl
    refine HExt.put ?_ ?_
    refine HExt.tr ?_ (by assumption) ?_
    refine HExt.put ?_ ?_
    refine HExt.tr ?_ (by assumption) ?_
    refine HExt.put ?_ ?_
    refine HExt.tr ?_ (by assumption) ?_
    refine HExt.push ?_
    refine HExt.put ?_ ?_
    refine HExt.push ?_
    refine HExt.push ?_
    · exact HExt.refl _ _
    · exact .inr (by omega)
    · simp; omega
    · exact .inr (by omega)
    · simp; omega
    · exact .inr (by omega)
    · intro _ h; cases h; done
    · exact .inr (by omega)
    simp only [beq_true, beq_false, Bool.not_true, Bool.not_false, Bool.not_eq_true', Bool.not_eq_false', decide_eq_true_eq, decide_eq_false_iff_not] at c15
    refine GWP.skip ?_
    refine GWP.seq ?_
    refine GWP.region ?_
    focus
      refine GOps.r rfl rfl rfl rfl (grd_loadNK (b := ?_) (cs := ?_) tab_is rfl rfl rfl rfl ?_ ?_ ?_) ?_
      rotate_left 2
      refine (HExt.eq (by assumption) _ ?_ ?_).trans ?_
      · simp; omega
      · intro h; cases h; done
      refine Hp.at_put_eq ?_
      · omega
      · exact Nat.le_of_ble_eq_true rfl
      · simp [Value.cells]; rfl
    focus
      refine GOps.s rfl rfl rfl (gop_storeC (b := ?_) (cs := ?_) tab_is rfl rfl ?_ rfl rfl ?_ ?_ ?_ ?_ ?_ ?_) ?_
      rotate_left 2
      · rfl
      · rfl
      refine (HExt.eq (by assumption) _ ?_ ?_).trans ?_
      · simp; omega
      · intro h; cases h; done
      refine (Hp.at_put_ne ?_).trans ?_
      · omega
      refine (HExt.eq (by assumption) _ ?_ ?_).trans ?_
      · simp; omega
      · simp; omega
      refine (Hp.at_put_ne ?_).trans ?_
      · omega
      refine (HExt.eq (by assumption) _ ?_ ?_).trans ?_
      · simp; omega
      · simp; omega
      refine (Hp.at_push_lt ?_).trans ?_
      · simp; omega
      refine (Hp.at_put_ne ?_).trans ?_
      · omega
      refine (Hp.at_push_lt ?_).trans ?_
      · simp; done
      · exact Hp.at_push_eq
      · rfl
      · exact Nat.le_of_ble_eq_true rfl
      · exact .inr (by simp)
      · simp [splice, Value.cells]; rfl
    refine GOps.r rfl rfl rfl rfl (grd_assign rfl rfl) ?_
    refine GOps.nil ?_
    refine GWP.ret ?_
    focus
      refine ⟨_, (.two (gres_cellNK (b := ?_) (cs := ?_) rfl rfl rfl ?_ ?_ ?_) (.one rfl)), ?_⟩
      rotate_left 2
      refine Hp.at_put_eq ?_
      · omega
      · exact Nat.le_of_ble_eq_true rfl
      · simp [Value.cells]; rfl
    refine ⟨?_, ?_⟩
    · rw [if_neg (by simp only [decide_eq_true_eq, decide_eq_false_iff_not] at *; omega)]; rfl
    refine HExt.put ?_ ?_
    refine HExt.tr ?_ (by assumption) ?_
    refine HExt.put ?_ ?_
    refine HExt.tr ?_ (by assumption) ?_
    refine HExt.put ?_ ?_
    refine HExt.tr ?_ (by assumption) ?_
    refine HExt.push ?_
    refine HExt.put ?_ ?_
    refine HExt.push ?_
    refine HExt.push ?_
    · exact HExt.refl _ _
    · exact .inr (by omega)
    · simp; omega
    · exact .inr (by omega)
    · simp; omega
    · exact .inr (by omega)
    · intro _ h; cases h; done
    · exact .inr (by omega)
    simp only [beq_true, beq_false, Bool.not_true, Bool.not_false, Bool.not_eq_true', Bool.not_eq_false', decide_eq_true_eq, decide_eq_false_iff_not] at c14
    refine GOps.no rfl ?_ rfl rfl ?_
    · exact beq_eq_false_iff_ne.2 (by rw [decide_eq_true (by assumption)]; decide)
    refine GOps.no rfl ?_ rfl rfl ?_
    · exact beq_eq_false_iff_ne.2 (by rw [decide_eq_true (by assumption)]; decide)
    refine GOps.r rfl rfl rfl rfl (grd_pick_t rfl rfl ?_ rfl) ?_
    · exact decide_eq_true (by assumption)
    refine GOps.nil ?_
    refine GWP.cond_t rfl ?_ ?_
    · with_reducible rfl
    refine GWP.seq ?_
    refine GWP.region ?_
    focus
      refine GOps.r rfl rfl rfl rfl (grd_build (cs := ?_) tab_is rfl rfl rfl ?_ rfl ?_) ?_
      rotate_left 1
      · decide
      · simp [gfill, gsets, Value.cells]; rfl
    focus
      refine GOps.s rfl rfl rfl (gop_storeC (b := ?_) (cs := ?_) tab_is rfl rfl ?_ rfl rfl ?_ ?_ ?_ ?_ ?_ ?_) ?_
      rotate_left 2
      · rfl
      · rfl
      refine (HExt.eq (by assumption) _ ?_ ?_).trans ?_
      · simp; omega
      · intro h; cases h; done
      refine (Hp.at_put_ne ?_).trans ?_
      · omega
      refine (HExt.eq (by assumption) _ ?_ ?_).trans ?_
      · simp; omega
      · simp; omega
      refine (Hp.at_put_ne ?_).trans ?_
      · omega
      refine (HExt.eq (by assumption) _ ?_ ?_).trans ?_
      · simp; omega
      · simp; omega
      refine (Hp.at_push_lt ?_).trans ?_
      · simp; omega
      refine (Hp.at_put_ne ?_).trans ?_
      · omega
      refine (Hp.at_push_lt ?_).trans ?_
      · simp; done
      · exact Hp.at_push_eq
      · rfl
      · decide
      · exact .inr (by simp)
      · simp [splice, Value.cells]; rfl
    refine GOps.r rfl rfl rfl rfl (grd_assign rfl rfl) ?_
    refine GOps.nil ?_
    refine GWP.ret ?_
    focus
      refine ⟨_, (.two (gres_cellNK (b := ?_) (cs := ?_) rfl rfl rfl ?_ ?_ ?_) (.one rfl)), ?_⟩
      rotate_left 2
      refine Hp.at_put_eq ?_
      · omega
      · decide
      · simp [Value.cells]; rfl
    refine ⟨?_, ?_⟩
    · rw [if_pos (by simp only [decide_eq_true_eq, decide_eq_false_iff_not] at *; omega)]; rfl
    refine HExt.put ?_ ?_
    refine HExt.tr ?_ (by assumption) ?_
    refine HExt.put ?_ ?_
    refine HExt.tr ?_ (by assumption) ?_
    refine HExt.put ?_ ?_
    refine HExt.tr ?_ (by assumption) ?_
    refine HExt.push ?_
    refine HExt.put ?_ ?_
    refine HExt.push ?_
    refine HExt.push ?_
    · exact HExt.refl _ _
    · exact .inr (by omega)
    · simp; omega
    · exact .inr (by omega)
    · simp; omega
    · exact .inr (by omega)
    · intro _ h; cases h; done
    · exact .inr (by omega)
    simp only [beq_true, beq_false, Bool.not_true, Bool.not_false, Bool.not_eq_true', Bool.not_eq_false', decide_eq_true_eq, decide_eq_false_iff_not] at c13
    refine GOps.no rfl ?_ rfl rfl ?_
    · exact beq_eq_false_iff_ne.2 (by rw [decide_eq_true (by assumption)]; decide)
    refine GOps.no rfl ?_ rfl rfl ?_
    · exact beq_eq_false_iff_ne.2 (by rw [decide_eq_true (by assumption)]; decide)
    refine GOps.no rfl ?_ rfl rfl ?_
    · exact beq_eq_false_iff_ne.2 (by rw [decide_eq_true (by assumption)]; decide)
    refine GOps.no rfl ?_ rfl rfl ?_
    · exact beq_eq_false_iff_ne.2 (by rw [decide_eq_true (by assumption)]; decide)
    refine GOps.no rfl ?_ rfl rfl ?_
    · exact beq_eq_false_iff_ne.2 (by rw [decide_eq_true (by assumption)]; decide)
    refine GOps.no rfl ?_ rfl rfl ?_
    · exact beq_eq_false_iff_ne.2 (by rw [decide_eq_true (by assumption)]; decide)
    refine GOps.r rfl rfl rfl rfl (grd_pick_t rfl rfl ?_ rfl) ?_
    · exact decide_eq_true (by assumption)
    refine GOps.r rfl rfl rfl rfl (grd_move rfl rfl) ?_
    refine GOps.no rfl ?_ rfl rfl ?_
    · simp; done
    refine GOps.no rfl ?_ rfl rfl ?_
    · simp; done
    refine GOps.r rfl rfl rfl rfl (grd_pick_t rfl rfl ?_ rfl) ?_
    · with_reducible rfl
    refine GOps.nil ?_
    refine GWP.cond_t rfl ?_ ?_
    · with_reducible rfl
    refine GWP.seq ?_
    refine GWP.region ?_
    focus
      refine GOps.r rfl rfl rfl rfl (grd_build (cs := ?_) tab_is rfl rfl rfl ?_ rfl ?_) ?_
      rotate_left 1
      · decide
      · simp [gfill, gsets, Value.cells]; rfl
    focus
      refine GOps.s rfl rfl rfl (gop_storeC (b := ?_) (cs := ?_) tab_is rfl rfl ?_ rfl rfl ?_ ?_ ?_ ?_ ?_ ?_) ?_
      rotate_left 2
      · rfl
      · rfl
      refine (HExt.eq (by assumption) _ ?_ ?_).trans ?_
      · simp; omega
      · intro h; cases h; done
      refine (Hp.at_put_ne ?_).trans ?_
      · omega
      refine (HExt.eq (by assumption) _ ?_ ?_).trans ?_
      · simp; omega
      · simp; omega
      refine (Hp.at_put_ne ?_).trans ?_
      · omega
      refine (HExt.eq (by assumption) _ ?_ ?_).trans ?_
      · simp; omega
      · simp; omega
      refine (Hp.at_push_lt ?_).trans ?_
      · simp; omega
      refine (Hp.at_put_ne ?_).trans ?_
      · omega
      refine (Hp.at_push_lt ?_).trans ?_
      · simp; done
      · exact Hp.at_push_eq
      · rfl
      · decide
      · exact .inr (by simp)
      · simp [splice, Value.cells]; rfl
    refine GOps.r rfl rfl rfl rfl (grd_assign rfl rfl) ?_
    refine GOps.nil ?_
    refine GWP.ret ?_
    focus
      refine ⟨_, (.two (gres_cellNK (b := ?_) (cs := ?_) rfl rfl rfl ?_ ?_ ?_) (.one rfl)), ?_⟩
      rotate_left 2
      refine Hp.at_put_eq ?_
      · omega
      · decide
      · simp [Value.cells]; rfl
    refine ⟨?_, ?_⟩
    · rw [if_pos (by simp only [decide_eq_true_eq, decide_eq_false_iff_not] at *; omega)]; rfl
    refine HExt.put ?_ ?_
    refine HExt.tr ?_ (by assumption) ?_
    refine HExt.put ?_ ?_
    refine HExt.tr ?_ (by assumption) ?_
    refine HExt.put ?_ ?_
    refine HExt.tr ?_ (by assumption) ?_
    refine HExt.push ?_
    refine HExt.put ?_ ?_
    refine HExt.push ?_
    refine HExt.push ?_
    · exact HExt.refl _ _
    · exact .inr (by omega)
    · simp; omega
    · exact .inr (by omega)
    · simp; omega
    · exact .inr (by omega)
    · intro _ h; cases h; done
    · exact .inr (by omega)
set_option maxHeartbeats 4000000 in
set_option maxRecDepth 100000 in
set_option linter.unusedSimpArgs false in
theorem g_rpar4 (H : Hp) (p : Option Addr) (n c : Nat) (M : List UInt8) (hb : BS H (.slice p n c) (4 :: M)) (hn : n ≤ 35184372088832) (r1 r2 r3 : Nat × RdS) (h1 : RdS.number ⟨M, 0⟩ 1099511627776 = r1) (h2 : r1.2.number 1099511627776 = r2) (h3 : r2.2.number 18446744073709551615 = r3) : GCalls Try.prog 40 [.slice p n c] [] H fun v H' => v = (if r3.2.e ≠ 0 ∨ 0 < r3.2.l.length ∨ 2305843009213693951 ≤ r3.1 then .tuple #[recT 0 0 0 0 0 [] 0 0 0, .bool false] else .tuple #[recT 4 0 0 0 0 [] r1.1 r2.1 r3.1, .bool true]) ∧ HExt [] H H' := by
  have hl := hb.len
  simp only [List.length_cons] at hl
  subst hl
  have t1 := numG_le h1
  have t2 := numG_le h2
  refine GCalls.body tab_is Try.func40 rfl Try.results40 Try.ntmps40 (by simp) ?_ ?_
  · first | (intro _ h; cases h; done) | (simp; done) | (simp; omega) | (intro i hi; simp at hi; rcases hi with rfl | rfl <;> omega) | (intro i hi; simp at hi; rcases hi with rfl | rfl | rfl <;> omega)
  focus
    refine GWP.seq ?_
    refine GWP.region ?_
    focus
      refine GOps.w1 rfl rfl rfl rfl (gop_alloc' (id := ?_) ?_ tab_is rfl rfl ?_) ?_
      rotate_left 1
      · rfl
      · decide
    refine GOps.r rfl rfl rfl rfl (grd_assign rfl rfl) ?_
    refine GOps.nil ?_
    refine GWP.seq ?_
    refine GWP.seq ?_
    refine GWP.region ?_
    refine GOps.r rfl rfl rfl rfl (grd_move rfl rfl) ?_
    refine GOps.r rfl rfl rfl rfl (grd_len tab_is rfl rfl rfl rfl rfl) ?_
    refine GOps.r rfl rfl rfl rfl (grd_eql rfl rfl rfl) ?_
    refine GOps.nil ?_
    refine GWP.cond_f rfl ?_ ?_
    · exact decide_eq_false (by omega)
    refine GWP.skip ?_
    refine GWP.seq ?_
    refine GWP.region ?_
    refine GOps.r rfl rfl rfl rfl (grd_move rfl rfl) ?_
    focus
      refine GOps.r rfl rfl rfl rfl (grd_indexBS (q := ?_) (L := ?_) tab_is rfl rfl rfl rfl rfl ?_ ?_ ?_) ?_
      rotate_left 2
      focus
        refine BS.ext (by assumption) ?_
        refine HExt.push ?_
        · exact HExt.refl _ _
      · rfl
      · exact Nat.le_of_ble_eq_true rfl
    focus
      refine GOps.re rfl rfl rfl rfl (grd_loadBSK (n := ?_) (c := ?_) (L := ?_) (u := ?_) tab_is rfl rfl rfl rfl ?_ ?_ ?_) ?_
      rotate_left 4
      focus
        refine BS.ext (by assumption) ?_
        refine HExt.push ?_
        · exact HExt.refl _ _
      · exact Nat.le_of_ble_eq_true rfl
      · simp only [List.getD_cons_zero]; rfl
    focus
      refine GOps.r rfl rfl rfl rfl (grd_build (cs := ?_) tab_is rfl rfl rfl ?_ rfl ?_) ?_
      rotate_left 1
      · decide
      · simp [gfill, gsets, Value.cells]; rfl
    focus
      refine GOps.w1 rfl rfl rfl rfl (gop_alloc' (id := ?_) ?_ tab_is rfl rfl ?_) ?_
      rotate_left 1
      · simp; rfl
      · decide
    focus
      refine GOps.s rfl rfl rfl (gop_storeC (b := ?_) (cs := ?_) tab_is rfl rfl ?_ rfl rfl ?_ ?_ ?_ ?_ ?_ ?_) ?_
      rotate_left 2
      · rfl
      · rfl
      refine Hp.at_push_id ?_
      · simp; done
      · rfl
      · decide
      · exact .inr (by simp)
      · simp [splice, Value.cells]; rfl
    refine GOps.nil ?_
    refine GWP.seq ?_
    refine GWP.region ?_
    refine GOps.r rfl rfl rfl rfl (grd_move rfl rfl) ?_
    focus
      refine gops_bs rfl rfl rfl rfl (grd_slBS (l := ?_) (h := ?_) (m2 := ?_) (L := ?_) (M := ?_) tab_is rfl rfl rfl rfl ?_ ?_ ?_ ?_ ?_ ?_ ?_) ?_
      rotate_left 5
      focus
        refine BS.ext (by assumption) ?_
        refine HExt.put ?_ ?_
        refine HExt.push ?_
        refine HExt.push ?_
        · exact HExt.refl _ _
        · exact .inr (by omega)
      · refine gbound_const ?_; exact rfl
      · exact rfl
      · exact Nat.le_of_ble_eq_true rfl
      · omega
      · simp; rfl
      · refine Eq.trans (List.take_of_length_le ?_) ?_; rotate_left 1; rfl; (simp; done)
    intro pd1 cd1 d1
    have d1n := BS.len d1
    focus
      refine GOps.r rfl rfl rfl rfl (grd_build (cs := ?_) tab_is rfl rfl rfl ?_ rfl ?_) ?_
      rotate_left 1
      · decide
      · simp [gfill, gsets, Value.cells]; rfl
    focus
      refine GOps.w1 rfl rfl rfl rfl (gop_box' (id := ?_) ?_ rfl rfl rfl) ?_
      rotate_left 1
      · simp; rfl
    refine GOps.r rfl rfl rfl rfl (grd_assign rfl rfl) ?_
    refine GOps.nil ?_
    refine GWP.seq ?_
    refine GWP.region ?_
    refine GOps.r rfl rfl rfl rfl (grd_assign rfl rfl) ?_
    refine GOps.nil ?_
    refine GWP.seq ?_
    refine GWP.seq ?_
    refine GWP.region ?_
    refine GOps.r rfl rfl rfl rfl (grd_fieldAddr tab_is rfl rfl rfl rfl rfl) ?_
    focus
      refine GOps.r rfl rfl rfl rfl (grd_load1 (b := ?_) (v := ?_) tab_is rfl rfl rfl rfl ?_ ?_) ?_
      rotate_left 2
      refine (Hp.at_push_lt ?_).trans ?_
      · simp; done
      refine Hp.at_put_eq ?_
      · simp; done
      · rfl
    refine GOps.nil ?_
    refine GWP.block ?_
    refine GWP.seq ?_
    refine GWP.region ?_
    refine GOps.r rfl rfl rfl rfl (grd_eql rfl rfl rfl) ?_
    refine GOps.r rfl rfl rfl rfl (grd_assign rfl rfl) ?_
    refine GOps.nil ?_
    refine GWP.cond_f rfl ?_ ?_
    · exact decide_eq_false (by omega)
    refine GWP.seq ?_
    refine GWP.region ?_
    refine GOps.r rfl rfl rfl rfl (grd_eql rfl rfl rfl) ?_
    refine GOps.r rfl rfl rfl rfl (grd_assign rfl rfl) ?_
    refine GOps.nil ?_
    refine GWP.cond_f rfl ?_ ?_
    · exact decide_eq_false (by omega)
    refine GWP.seq ?_
    refine GWP.region ?_
    refine GOps.r rfl rfl rfl rfl (grd_eql rfl rfl rfl) ?_
    refine GOps.r rfl rfl rfl rfl (grd_assign rfl rfl) ?_
    refine GOps.nil ?_
    refine GWP.cond_f rfl ?_ ?_
    · exact decide_eq_false (by omega)
    refine GWP.seq ?_
    refine GWP.region ?_
    refine GOps.r rfl rfl rfl rfl (grd_eql rfl rfl rfl) ?_
    refine GOps.r rfl rfl rfl rfl (grd_assign rfl rfl) ?_
    refine GOps.nil ?_
    refine GWP.cond_t rfl ?_ ?_
    · exact decide_eq_true (by omega)
    refine GWP.seq ?_
    refine GWP.region ?_
    refine GOps.r rfl rfl rfl rfl (grd_move rfl rfl) ?_
    focus
      refine GOps.w rfl rfl rfl rfl (gop_call rfl Try.call27 rfl ?_ (g_rnumG _ _ _ h1 _ ?_ _ _ ?_ ?_ ?_)) ?_
      · simp [Ctx.may]; omega
      · omega
      rotate_left 2
      refine rg_mk (b := ?_) ?_ ?_ ?_ ?_
      rotate_left 1
      refine Hp.at_push_id ?_
      · simp; done
      · rfl
      focus
        refine BS.ext (by assumption) ?_
        refine HExt.push ?_
        · exact HExt.refl _ _
      · simp only; omega
    rintro _ Hxd6 ⟨rfl, ⟨pd2, cd3, rd4⟩, kd5, xd6⟩
    have xd6l := HExt.len xd6; try simp at xd6l
    have rd4g := RG.hg rd4; unfold rdBlk at rd4g; have rd4q := Hp.at_lt rd4g
    refine GOps.r rfl rfl rfl rfl (grd_conv_in tab_is rfl rfl rfl rfl rfl ?_) ?_
    · refine wrap_i64_in ?_; omega
    refine GOps.r rfl rfl rfl rfl (grd_fieldAddr tab_is rfl rfl rfl rfl rfl) ?_
    focus
      refine GOps.s rfl rfl rfl (gop_store1 (b := ?_) tab_is rfl rfl rfl rfl rfl rfl ?_ ?_ ?_ ?_) ?_
      rotate_left 1
      refine (HExt.eq (by assumption) _ ?_ ?_).trans ?_
      · simp; done
      · simp; done
      refine (Hp.at_push_lt ?_).trans ?_
      · simp; done
      refine Hp.at_put_eq ?_
      · simp; done
      · rfl
      · decide
      · exact .inr (by simp)
    refine GOps.nil ?_
    refine GWP.seq ?_
    refine GWP.region ?_
    refine GOps.r rfl rfl rfl rfl (grd_move rfl rfl) ?_
    focus
      refine GOps.w rfl rfl rfl rfl (gop_call rfl Try.call27 rfl ?_ (g_rnumG _ _ _ h2 _ ?_ _ _ ?_ ?_ ?_)) ?_
      · simp [Ctx.may]; omega
      · omega
      rotate_left 2
      refine rg_ne (b := ?_) ?_ ?_ ?_ ?_
      rotate_left 1
      focus
        · assumption
      refine (HExt.eq (by assumption) _ ?_ ?_).trans ?_
      · simp; done
      · simp; done
      refine (Hp.at_push_lt ?_).trans ?_
      · simp; done
      refine Hp.at_put_eq ?_
      · simp; done
      · omega
      · rfl
    rintro _ Hxd11 ⟨rfl, ⟨pd7, cd8, rd9⟩, kd10, xd11⟩
    have xd11l := HExt.len xd11; try simp at xd11l
    have rd9g := RG.hg rd9; unfold rdBlk at rd9g; have rd9q := Hp.at_lt rd9g
    refine GOps.r rfl rfl rfl rfl (grd_fieldAddr tab_is rfl rfl rfl rfl rfl) ?_
    focus
      refine GOps.s rfl rfl rfl (gop_store1 (b := ?_) tab_is rfl rfl rfl rfl rfl rfl ?_ ?_ ?_ ?_) ?_
      rotate_left 1
      refine (HExt.eq (by assumption) _ ?_ ?_).trans ?_
      · simp; omega
      · simp; done
      refine Hp.at_put_eq ?_
      · omega
      · rfl
      · exact Nat.le_of_ble_eq_true rfl
      · exact .inr (by simp)
    refine GOps.nil ?_
    refine GWP.region ?_
    refine GOps.r rfl rfl rfl rfl (grd_move rfl rfl) ?_
    refine GOps.r rfl rfl rfl rfl (grd_move rfl rfl) ?_
    focus
      refine GOps.w rfl rfl rfl rfl (gop_call rfl Try.call27 rfl ?_ (g_rnumG _ _ _ h3 _ ?_ _ _ ?_ ?_ ?_)) ?_
      · simp [Ctx.may]; omega
      · omega
      rotate_left 2
      refine rg_ne (b := ?_) ?_ ?_ ?_ ?_
      rotate_left 1
      focus
        · assumption
      refine (HExt.eq (by assumption) _ ?_ ?_).trans ?_
      · simp; omega
      · simp; done
      refine Hp.at_put_eq ?_
      · omega
      · omega
      · rfl
    rintro _ Hxd16 ⟨rfl, ⟨pd12, cd13, rd14⟩, kd15, xd16⟩
    have xd16l := HExt.len xd16; try simp at xd16l
    have rd14g := RG.hg rd14; unfold rdBlk at rd14g; have rd14q := Hp.at_lt rd14g
    refine GOps.r rfl rfl rfl rfl (grd_fieldAddr tab_is rfl rfl rfl rfl rfl) ?_
    focus
      refine GOps.s rfl rfl rfl (gop_store1 (b := ?_) tab_is rfl rfl rfl rfl rfl rfl ?_ ?_ ?_ ?_) ?_
      rotate_left 1
      refine (HExt.eq (by assumption) _ ?_ ?_).trans ?_
      · simp; omega
      · simp; done
      refine Hp.at_put_eq ?_
      · omega
      · rfl
      · exact Nat.le_of_ble_eq_true rfl
      · exact .inr (by simp)
    refine GOps.nil ?_
    refine GWP.seq ?_
    refine GWP.region ?_
    focus
      refine GOps.r rfl rfl rfl rfl (grd_loadNK (b := ?_) (cs := ?_) tab_is rfl rfl rfl rfl ?_ ?_ ?_) ?_
      rotate_left 2
      refine Hp.at_put_eq ?_
      · omega
      · exact Nat.le_of_ble_eq_true rfl
      · simp [Value.cells]; rfl
    refine GOps.w rfl rfl rfl rfl (gop_call rfl Try.call15 rfl ?_ (g_right4 _ _ _ _ ?_ ?_)) ?_
    · intro _ h; cases h; done
    · omega
    · omega
    rintro _ Hxd17 ⟨rfl, xd17⟩
    have xd17l := HExt.len xd17; try simp at xd17l
    refine GOps.r rfl rfl rfl rfl (grd_assign rfl rfl) ?_
    refine GOps.nil ?_
    refine GWP.seq ?_
    refine GWP.seq ?_
    refine GWP.region ?_
    refine GOps.r rfl rfl rfl rfl (grd_move rfl rfl) ?_
    refine GOps.r rfl rfl rfl rfl (grd_nil rfl rfl) ?_
    refine GOps.r rfl rfl rfl rfl (grd_fieldAddr tab_is rfl rfl rfl rfl rfl) ?_
    focus
      refine GOps.r rfl rfl rfl rfl (grd_load1 (b := ?_) (v := ?_) tab_is rfl rfl rfl rfl ?_ ?_) ?_
      rotate_left 2
      refine (HExt.eq (by assumption) _ ?_ ?_).trans ?_
      · simp; omega
      · intro h; cases h; done
      refine (Hp.at_put_ne ?_).trans ?_
      · omega
      · assumption
      · rfl
    refine GOps.r rfl rfl rfl rfl (grd_neq rfl rfl rfl) ?_
    refine GOps.r rfl rfl rfl rfl (grd_move rfl rfl) ?_
    refine GOps.split rfl rfl (fun d18 => ?_) (fun d18 => ?_)
    simp only [beq_true, beq_false, Bool.not_true, Bool.not_false, Bool.not_eq_true', Bool.not_eq_false', decide_eq_true_eq, decide_eq_false_iff_not] at d18
    refine GOps.take rfl rfl ?_ ?_
    · exact beq_iff_eq.2 (decide_eq_false (by assumption))
    refine GOps.r rfl rfl rfl rfl (grd_move rfl rfl) ?_
    refine GOps.take rfl rfl ?_ ?_
    · exact beq_iff_eq.2 (decide_eq_false (by assumption))
    refine GOps.r rfl rfl rfl rfl (grd_nil rfl rfl) ?_
    refine GOps.take rfl rfl ?_ ?_
    · exact beq_iff_eq.2 (decide_eq_false (by assumption))
    refine GOps.r rfl rfl rfl rfl (grd_fieldAddr tab_is rfl rfl rfl rfl rfl) ?_
    refine GOps.take rfl rfl ?_ ?_
    · exact beq_iff_eq.2 (decide_eq_false (by assumption))
    focus
      refine GOps.r rfl rfl rfl rfl (grd_load1 (b := ?_) (v := ?_) tab_is rfl rfl rfl rfl ?_ ?_) ?_
      rotate_left 2
      refine (HExt.eq (by assumption) _ ?_ ?_).trans ?_
      · simp; omega
      · intro h; cases h; done
      refine (Hp.at_put_ne ?_).trans ?_
      · omega
      · assumption
      · rfl
    refine GOps.take rfl rfl ?_ ?_
    · exact beq_iff_eq.2 (decide_eq_false (by assumption))
    refine GOps.r rfl rfl rfl rfl (grd_len tab_is rfl rfl rfl rfl rfl) ?_
    refine GOps.take rfl rfl ?_ ?_
    · exact beq_iff_eq.2 (decide_eq_false (by assumption))
    refine GOps.r rfl rfl rfl rfl (grd_gtr rfl rfl rfl) ?_
    refine GOps.r rfl rfl rfl rfl (grd_pick_f rfl rfl ?_ rfl) ?_
    · exact decide_eq_false (by assumption)
    refine GOps.r rfl rfl rfl rfl (grd_move rfl rfl) ?_
    refine GOps.split rfl rfl (fun d19 => ?_) (fun d19 => ?_)
    simp only [beq_true, beq_false, Bool.not_true, Bool.not_false, Bool.not_eq_true', Bool.not_eq_false', decide_eq_true_eq, decide_eq_false_iff_not] at d19
    refine GOps.take rfl rfl ?_ ?_
    · exact beq_iff_eq.2 (decide_eq_false (by assumption))
    refine GOps.r rfl rfl rfl rfl (grd_move rfl rfl) ?_
    refine GOps.take rfl rfl ?_ ?_
    · exact beq_iff_eq.2 (decide_eq_false (by assumption))
    refine GOps.r rfl rfl rfl rfl (grd_not rfl rfl) ?_
    refine GOps.r rfl rfl rfl rfl (grd_pick_f rfl rfl ?_ rfl) ?_
    · exact decide_eq_false (by assumption)
    refine GOps.nil ?_
    refine GWP.cond rfl (fun d20 => ?_) (fun d20 => ?_)
    simp only [beq_true, beq_false, Bool.not_true, Bool.not_false, Bool.not_eq_true', Bool.not_eq_false', decide_eq_true_eq, decide_eq_false_iff_not] at d20
    refine GWP.seq ?_
    refine GWP.region ?_
    focus
      refine GOps.r rfl rfl rfl rfl (grd_build (cs := ?_) tab_is rfl rfl rfl ?_ rfl ?_) ?_
      rotate_left 1
      · decide
      · simp [gfill, gsets, Value.cells]; rfl
    focus
      refine GOps.s rfl rfl rfl (gop_storeC (b := ?_) (cs := ?_) tab_is rfl rfl ?_ rfl rfl ?_ ?_ ?_ ?_ ?_ ?_) ?_
      rotate_left 2
      · rfl
      · rfl
      refine (HExt.eq (by assumption) _ ?_ ?_).trans ?_
      · simp; omega
      · intro h; cases h; done
      refine (Hp.at_put_ne ?_).trans ?_
      · omega
      refine (HExt.eq (by assumption) _ ?_ ?_).trans ?_
      · simp; omega
      · simp; omega
      refine (Hp.at_put_ne ?_).trans ?_
      · omega
      refine (HExt.eq (by assumption) _ ?_ ?_).trans ?_
      · simp; omega
      · simp; omega
      refine (Hp.at_put_ne ?_).trans ?_
      · omega
      refine (HExt.eq (by assumption) _ ?_ ?_).trans ?_
      · simp; omega
      · simp; omega
      refine (Hp.at_push_lt ?_).trans ?_
      · simp; omega
      refine (Hp.at_put_ne ?_).trans ?_
      · omega
      refine (Hp.at_push_lt ?_).trans ?_
      · simp; done
      · exact Hp.at_push_eq
      · rfl
      · decide
      · exact .inr (by simp)
      · simp [splice, Value.cells]; rfl
    refine GOps.r rfl rfl rfl rfl (grd_assign rfl rfl) ?_
    refine GOps.nil ?_
    refine GWP.ret ?_
    focus
      refine ⟨_, (.two (gres_cellNK (b := ?_) (cs := ?_) rfl rfl rfl ?_ ?_ ?_) (.one rfl)), ?_⟩
      rotate_left 2
      refine Hp.at_put_eq ?_
      · omega
      · decide
      · simp [Value.cells]; rfl
    refine ⟨?_, ?_⟩
    · rw [if_pos (by simp only [decide_eq_true_eq, decide_eq_false_iff_not] at *; omega)]; rfl
    refine HExt.put ?_ ?_
    refine HExt.tr ?_ (by assumption) ?_
    refine HExt.put ?_ ?_
    refine HExt.tr ?_ (by assumption) ?_
    refine HExt.put ?_ ?_
    refine HExt.tr ?_ (by assumption) ?_
    refine HExt.put ?_ ?_
    refine HExt.tr ?_ (by assumption) ?_
    refine HExt.push ?_
    refine HExt.put ?_ ?_
    refine HExt.push ?_
    refine HExt.push ?_
    · exact HExt.refl _ _
    · exact .inr (by omega)
    · simp; omega
    · exact .inr (by omega)
    · simp; omega
    · exact .inr (by omega)
    · simp; omega
    · exact .inr (by omega)
    · intro _ h; cases h; done
    · exact .inr (by omega)
    simp only [beq_true, beq_false, Bool.not_true, Bool.not_false, Bool.not_eq_true', Bool.not_eq_false', decide_eq_true_eq, decide_eq_false_iff_not] at d20
    refine GWP.skip ?_
    refine GWP.seq ?_
    refine GWP.region ?_
    focus
      refine GOps.r rfl rfl rfl rfl (grd_loadNK (b := ?_) (cs := ?_) tab_is rfl rfl rfl rfl ?_ ?_ ?_) ?_
      rotate_left 2
      refine (HExt.eq (by assumption) _ ?_ ?_).trans ?_
      · simp; omega
      · intro h; cases h; done
      refine Hp.at_put_eq ?_
      · omega
      · exact Nat.le_of_ble_eq_true rfl
      · simp [Value.cells]; rfl
    focus
      refine GOps.s rfl rfl rfl (gop_storeC (b := ?_) (cs := ?_) tab_is rfl rfl ?_ rfl rfl ?_ ?_ ?_ ?_ ?_ ?_) ?_
      rotate_left 2
      · rfl
      · rfl
      refine (HExt.eq (by assumption) _ ?_ ?_).trans ?_
      · simp; omega
      · intro h; cases h; done
      refine (Hp.at_put_ne ?_).trans ?_
      · omega
      refine (HExt.eq (by assumption) _ ?_ ?_).trans ?_
      · simp; omega
      · simp; omega
      refine (Hp.at_put_ne ?_).trans ?_
      · omega
      refine (HExt.eq (by assumption) _ ?_ ?_).trans ?_
      · simp; omega
      · simp; omega
      refine (Hp.at_put_ne ?_).trans ?_
      · omega
      refine (HExt.eq (by assumption) _ ?_ ?_).trans ?_
      · simp; omega
      · simp; omega
      refine (Hp.at_push_lt ?_).trans ?_
      · simp; omega
      refine (Hp.at_put_ne ?_).trans ?_
      · omega
      refine (Hp.at_push_lt ?_).trans ?_
      · simp; done
      · exact Hp.at_push_eq
      · rfl
      · exact Nat.le_of_ble_eq_true rfl
      · exact .inr (by simp)
      · simp [splice, Value.cells]; rfl
    refine GOps.r rfl rfl rfl rfl (grd_assign rfl rfl) ?_
    refine GOps.nil ?_
    refine GWP.ret ?_
    focus
      refine ⟨_, (.two (gres_cellNK (b := ?_) (cs := ?_) rfl rfl rfl ?_ ?_ ?_) (.one rfl)), ?_⟩
      rotate_left 2
      refine Hp.at_put_eq ?_
      · omega
      · exact Nat.le_of_ble_eq_true rfl
      · simp [Value.cells]; rfl
    refine ⟨?_, ?_⟩
    · rw [if_neg (by simp only [decide_eq_true_eq, decide_eq_false_iff_not] at *; omega)]; rfl
    refine HExt.put ?_ ?_
    refine HExt.tr ?_ (by assumption) ?_
    refine HExt.put ?_ ?_
    refine HExt.tr ?_ (by assumption) ?_
    refine HExt.put ?_ ?_
    refine HExt.tr ?_ (by assumption) ?_
    refine HExt.put ?_ ?_
    refine HExt.tr ?_ (by assumption) ?_
    refine HExt.push ?_
    refine HExt.put ?_ ?_
    refine HExt.push ?_
    refine HExt.push ?_
    · exact HExt.refl _ _
    · exact .inr (by omega)
    · simp; omega
    · exact .inr (by omega)
    · simp; omega
    · exact .inr (by omega)
    · simp; omega
    · exact .inr (by omega)
    · intro _ h; cases h; done
    · exact .inr (by omega)
    simp only [beq_true, beq_false, Bool.not_true, Bool.not_false, Bool.not_eq_true', Bool.not_eq_false', decide_eq_true_eq, decide_eq_false_iff_not] at d19
    refine GOps.no rfl ?_ rfl rfl ?_
    · exact beq_eq_false_iff_ne.2 (by rw [decide_eq_true (by assumption)]; decide)
    refine GOps.no rfl ?_ rfl rfl ?_
    · exact beq_eq_false_iff_ne.2 (by rw [decide_eq_true (by assumption)]; decide)
    refine GOps.r rfl rfl rfl rfl (grd_pick_t rfl rfl ?_ rfl) ?_
    · exact decide_eq_true (by assumption)
    refine GOps.nil ?_
    refine GWP.cond_t rfl ?_ ?_
    · with_reducible rfl
    refine GWP.seq ?_
    refine GWP.region ?_
    focus
      refine GOps.r rfl rfl rfl rfl (grd_build (cs := ?_) tab_is rfl rfl rfl ?_ rfl ?_) ?_
      rotate_left 1
      · decide
      · simp [gfill, gsets, Value.cells]; rfl
    focus
      refine GOps.s rfl rfl rfl (gop_storeC (b := ?_) (cs := ?_) tab_is rfl rfl ?_ rfl rfl ?_ ?_ ?_ ?_ ?_ ?_) ?_
      rotate_left 2
      · rfl
      · rfl
      refine (HExt.eq (by assumption) _ ?_ ?_).trans ?_
      · simp; omega
      · intro h; cases h; done
      refine (Hp.at_put_ne ?_).trans ?_
      · omega
      refine (HExt.eq (by assumption) _ ?_ ?_).trans ?_
      · simp; omega
      · simp; omega
      refine (Hp.at_put_ne ?_).trans ?_
      · omega
      refine (HExt.eq (by assumption) _ ?_ ?_).trans ?_
      · simp; omega
      · simp; omega
      refine (Hp.at_put_ne ?_).trans ?_
      · omega
      refine (HExt.eq (by assumption) _ ?_ ?_).trans ?_
      · simp; omega
      · simp; omega
      refine (Hp.at_push_lt ?_).trans ?_
      · simp; omega
      refine (Hp.at_put_ne ?_).trans ?_
      · omega
      refine (Hp.at_push_lt ?_).trans ?_
      · simp; done
      · exact Hp.at_push_eq
      · rfl
      · decide
      · exact .inr (by simp)
      · simp [splice, Value.cells]; rfl
    refine GOps.r rfl rfl rfl rfl (grd_assign rfl rfl) ?_
    refine GOps.nil ?_
    refine GWP.ret ?_
    focus
      refine ⟨_, (.two (gres_cellNK (b := ?_) (cs := ?_) rfl rfl rfl ?_ ?_ ?_) (.one rfl)), ?_⟩
      rotate_left 2
      refine Hp.at_put_eq ?_
      · omega
      · decide
      · simp [Value.cells]; rfl
    refine ⟨?_, ?_⟩
    · rw [if_pos (by simp only [decide_eq_true_eq, decide_eq_false_iff_not] at *; omega)]; rfl
    refine HExt.put ?_ ?_
    refine HExt.tr ?_ (by assumption) ?_
    refine HExt.put ?_ ?_
    refine HExt.tr ?_ (by assumption) ?_
    refine HExt.put ?_ ?_
    refine HExt.tr ?_ (by assumption) ?_
    refine HExt.put ?_ ?_
    refine HExt.tr ?_ (by assumption) ?_
    refine HExt.push ?_
    refine HExt.put ?_ ?_
    refine HExt.push ?_
    refine HExt.push ?_
    · exact HExt.refl _ _
    · exact .inr (by omega)
    · simp; omega
    · exact .inr (by omega)
    · simp; omega
    · exact .inr (by omega)
    · simp; omega
    · exact .inr (by omega)
    · intro _ h; cases h; done
    · exact .inr (by omega)
    simp only [beq_true, beq_false, Bool.not_true, Bool.not_false, Bool.not_eq_true', Bool.not_eq_false', decide_eq_true_eq, decide_eq_false_iff_not] at d18
    refine GOps.no rfl ?_ rfl rfl ?_
    · exact beq_eq_false_iff_ne.2 (by rw [decide_eq_true (by assumption)]; decide)
    refine GOps.no rfl ?_ rfl rfl ?_
    · exact beq_eq_false_iff_ne.2 (by rw [decide_eq_true (by assumption)]; decide)
    refine GOps.no rfl ?_ rfl rfl ?_
    · exact beq_eq_false_iff_ne.2 (by rw [decide_eq_true (by assumption)]; decide)
    refine GOps.no rfl ?_ rfl rfl ?_
    · exact beq_eq_false_iff_ne.2 (by rw [decide_eq_true (by assumption)]; decide)
    refine GOps.no rfl ?_ rfl rfl ?_
    · exact beq_eq_false_iff_ne.2 (by rw [decide_eq_true (by assumption)]; decide)
    refine GOps.no rfl ?_ rfl rfl ?_
    · exact beq_eq_false_iff_ne.2 (by rw [decide_eq_true (by assumption)]; decide)
    refine GOps.r rfl rfl rfl rfl (grd_pick_t rfl rfl ?_ rfl) ?_
    · exact decide_eq_true (by assumption)
    refine GOps.r rfl rfl rfl rfl (grd_move rfl rfl) ?_
    refine GOps.no rfl ?_ rfl rfl ?_
    · simp; done
    refine GOps.no rfl ?_ rfl rfl ?_
    · simp; done
    refine GOps.r rfl rfl rfl rfl (grd_pick_t rfl rfl ?_ rfl) ?_
    · with_reducible rfl
    refine GOps.nil ?_
    refine GWP.cond_t rfl ?_ ?_
    · with_reducible rfl
    refine GWP.seq ?_
    refine GWP.region ?_
    focus
      refine GOps.r rfl rfl rfl rfl (grd_build (cs := ?_) tab_is rfl rfl rfl ?_ rfl ?_) ?_
      rotate_left 1
      · decide
      · simp [gfill, gsets, Value.cells]; rfl
    focus
      refine GOps.s rfl rfl rfl (gop_storeC (b := ?_) (cs := ?_) tab_is rfl rfl ?_ rfl rfl ?_ ?_ ?_ ?_ ?_ ?_) ?_
      rotate_left 2
      · rfl
      · rfl
      refine (HExt.eq (by assumption) _ ?_ ?_).trans ?_
      · simp; omega
      · intro h; cases h; done
      refine (Hp.at_put_ne ?_).trans ?_
      · omega
      refine (HExt.eq (by assumption) _ ?_ ?_).trans ?_
      · simp; omega
      · simp; omega
      refine (Hp.at_put_ne ?_).trans ?_
      · omega
      refine (HExt.eq (by assumption) _ ?_ ?_).trans ?_
      · simp; omega
      · simp; omega
      refine (Hp.at_put_ne ?_).trans ?_
      · omega
      refine (HExt.eq (by assumption) _ ?_ ?_).trans ?_
      · simp; omega
      · simp; omega
      refine (Hp.at_push_lt ?_).trans ?_
      · simp; omega
      refine (Hp.at_put_ne ?_).trans ?_
      · omega
      refine (Hp.at_push_lt ?_).trans ?_
      · simp; done
      · exact Hp.at_push_eq
      · rfl
      · decide
      · exact .inr (by simp)
      · simp [splice, Value.cells]; rfl
    refine GOps.r rfl rfl rfl rfl (grd_assign rfl rfl) ?_
    refine GOps.nil ?_
    refine GWP.ret ?_
    focus
      refine ⟨_, (.two (gres_cellNK (b := ?_) (cs := ?_) rfl rfl rfl ?_ ?_ ?_) (.one rfl)), ?_⟩
      rotate_left 2
      refine Hp.at_put_eq ?_
      · omega
      · decide
      · simp [Value.cells]; rfl
    refine ⟨?_, ?_⟩
    · rw [if_pos (by simp only [decide_eq_true_eq, decide_eq_false_iff_not] at *; omega)]; rfl
    refine HExt.put ?_ ?_
    refine HExt.tr ?_ (by assumption) ?_
    refine HExt.put ?_ ?_
    refine HExt.tr ?_ (by assumption) ?_
    refine HExt.put ?_ ?_
    refine HExt.tr ?_ (by assumption) ?_
    refine HExt.put ?_ ?_
    refine HExt.tr ?_ (by assumption) ?_
    refine HExt.push ?_
    refine HExt.put ?_ ?_
    refine HExt.push ?_
    refine HExt.push ?_
    · exact HExt.refl _ _
    · exact .inr (by omega)
    · simp; omega
    · exact .inr (by omega)
    · simp; omega
    · exact .inr (by omega)
    · simp; omega
    · exact .inr (by omega)
    · intro _ h; cases h; done
    · exact .inr (by omega)
set_option maxHeartbeats 4000000 in
set_option maxRecDepth 100000 in
set_option linter.unusedSimpArgs false in
theorem g_rpar5 (H : Hp) (p : Option Addr) (n c : Nat) (k : UInt8) (M : List UInt8) (hb : BS H (.slice p n c) (k :: M)) (hn : n ≤ 35184372088832) (hk : k.toNat = 0 ∨ 4 < k.toNat) : GCalls Try.prog 40 [.slice p n c] [] H fun v H' => v = .tuple #[recT 0 0 0 0 0 [] 0 0 0, .bool false] ∧ HExt [] H H' := by
  have hl := hb.len
  simp only [List.length_cons] at hl
  subst hl
  refine GCalls.body tab_is Try.func40 rfl Try.results40 Try.ntmps40 (by simp) ?_ ?_
  · first | (intro _ h; cases h; done) | (simp; done) | (simp; omega) | (intro i hi; simp at hi; rcases hi with rfl | rfl <;> omega) | (intro i hi; simp at hi; rcases hi with rfl | rfl | rfl <;> omega)
  focus
    refine GWP.seq ?_
    refine GWP.region ?_
    focus
      refine GOps.w1 rfl rfl rfl rfl (gop_alloc' (id := ?_) ?_ tab_is rfl rfl ?_) ?_
      rotate_left 1
      · rfl
      · decide
    refine GOps.r rfl rfl rfl rfl (grd_assign rfl rfl) ?_
    refine GOps.nil ?_
    refine GWP.seq ?_
    refine GWP.seq ?_
    refine GWP.region ?_
    refine GOps.r rfl rfl rfl rfl (grd_move rfl rfl) ?_
    refine GOps.r rfl rfl rfl rfl (grd_len tab_is rfl rfl rfl rfl rfl) ?_
    refine GOps.r rfl rfl rfl rfl (grd_eql rfl rfl rfl) ?_
    refine GOps.nil ?_
    refine GWP.cond_f rfl ?_ ?_
    · exact decide_eq_false (by omega)
    refine GWP.skip ?_
    refine GWP.seq ?_
    refine GWP.region ?_
    refine GOps.r rfl rfl rfl rfl (grd_move rfl rfl) ?_
    focus
      refine GOps.r rfl rfl rfl rfl (grd_indexBS (q := ?_) (L := ?_) tab_is rfl rfl rfl rfl rfl ?_ ?_ ?_) ?_
      rotate_left 2
      focus
        refine BS.ext (by assumption) ?_
        refine HExt.push ?_
        · exact HExt.refl _ _
      · rfl
      · exact Nat.le_of_ble_eq_true rfl
    focus
      refine GOps.re rfl rfl rfl rfl (grd_loadBSK (n := ?_) (c := ?_) (L := ?_) (u := ?_) tab_is rfl rfl rfl rfl ?_ ?_ ?_) ?_
      rotate_left 4
      focus
        refine BS.ext (by assumption) ?_
        refine HExt.push ?_
        · exact HExt.refl _ _
      · exact Nat.le_of_ble_eq_true rfl
      · simp only [List.getD_cons_zero]; rfl
    focus
      refine GOps.r rfl rfl rfl rfl (grd_build (cs := ?_) tab_is rfl rfl rfl ?_ rfl ?_) ?_
      rotate_left 1
      · decide
      · simp [gfill, gsets, Value.cells]; rfl
    focus
      refine GOps.w1 rfl rfl rfl rfl (gop_alloc' (id := ?_) ?_ tab_is rfl rfl ?_) ?_
      rotate_left 1
      · simp; rfl
      · decide
    focus
      refine GOps.s rfl rfl rfl (gop_storeC (b := ?_) (cs := ?_) tab_is rfl rfl ?_ rfl rfl ?_ ?_ ?_ ?_ ?_ ?_) ?_
      rotate_left 2
      · rfl
      · rfl
      refine Hp.at_push_id ?_
      · simp; done
      · rfl
      · exact Nat.le_of_ble_eq_true rfl
      · exact .inr (by simp)
      · simp [splice, Value.cells]; rfl
    refine GOps.nil ?_
    refine GWP.seq ?_
    refine GWP.region ?_
    refine GOps.r rfl rfl rfl rfl (grd_move rfl rfl) ?_
    focus
      refine gops_bs rfl rfl rfl rfl (grd_slBS (l := ?_) (h := ?_) (m2 := ?_) (L := ?_) (M := ?_) tab_is rfl rfl rfl rfl ?_ ?_ ?_ ?_ ?_ ?_ ?_) ?_
      rotate_left 5
      focus
        refine BS.ext (by assumption) ?_
        refine HExt.put ?_ ?_
        refine HExt.push ?_
        refine HExt.push ?_
        · exact HExt.refl _ _
        · exact .inr (by omega)
      · refine gbound_const ?_; exact rfl
      · exact rfl
      · exact Nat.le_of_ble_eq_true rfl
      · omega
      · simp; rfl
      · refine Eq.trans (List.take_of_length_le ?_) ?_; rotate_left 1; rfl; (simp; done)
    intro pe1 ce1 e1
    have e1n := BS.len e1
    focus
      refine GOps.r rfl rfl rfl rfl (grd_build (cs := ?_) tab_is rfl rfl rfl ?_ rfl ?_) ?_
      rotate_left 1
      · decide
      · simp [gfill, gsets, Value.cells]; rfl
    focus
      refine GOps.w1 rfl rfl rfl rfl (gop_box' (id := ?_) ?_ rfl rfl rfl) ?_
      rotate_left 1
      · simp; rfl
    refine GOps.r rfl rfl rfl rfl (grd_assign rfl rfl) ?_
    refine GOps.nil ?_
    refine GWP.seq ?_
    refine GWP.region ?_
    refine GOps.r rfl rfl rfl rfl (grd_assign rfl rfl) ?_
    refine GOps.nil ?_
    refine GWP.seq ?_
    refine GWP.seq ?_
    refine GWP.region ?_
    refine GOps.r rfl rfl rfl rfl (grd_fieldAddr tab_is rfl rfl rfl rfl rfl) ?_
    focus
      refine GOps.r rfl rfl rfl rfl (grd_load1 (b := ?_) (v := ?_) tab_is rfl rfl rfl rfl ?_ ?_) ?_
      rotate_left 2
      refine (Hp.at_push_lt ?_).trans ?_
      · simp; done
      refine Hp.at_put_eq ?_
      · simp; done
      · rfl
    refine GOps.nil ?_
    refine GWP.block ?_
    refine GWP.seq ?_
    refine GWP.region ?_
    refine GOps.r rfl rfl rfl rfl (grd_eql rfl rfl rfl) ?_
    refine GOps.r rfl rfl rfl rfl (grd_assign rfl rfl) ?_
    refine GOps.nil ?_
    refine GWP.cond_f rfl ?_ ?_
    · exact decide_eq_false (by omega)
    refine GWP.seq ?_
    refine GWP.region ?_
    refine GOps.r rfl rfl rfl rfl (grd_eql rfl rfl rfl) ?_
    refine GOps.r rfl rfl rfl rfl (grd_assign rfl rfl) ?_
    refine GOps.nil ?_
    refine GWP.cond_f rfl ?_ ?_
    · exact decide_eq_false (by omega)
    refine GWP.seq ?_
    refine GWP.region ?_
    refine GOps.r rfl rfl rfl rfl (grd_eql rfl rfl rfl) ?_
    refine GOps.r rfl rfl rfl rfl (grd_assign rfl rfl) ?_
    refine GOps.nil ?_
    refine GWP.cond_f rfl ?_ ?_
    · exact decide_eq_false (by omega)
    refine GWP.seq ?_
    refine GWP.region ?_
    refine GOps.r rfl rfl rfl rfl (grd_eql rfl rfl rfl) ?_
    refine GOps.r rfl rfl rfl rfl (grd_assign rfl rfl) ?_
    refine GOps.nil ?_
    refine GWP.cond_f rfl ?_ ?_
    · exact decide_eq_false (by omega)
    refine GWP.skip ?_
    refine GWP.seq ?_
    refine GWP.region ?_
    focus
      refine GOps.r rfl rfl rfl rfl (grd_loadNK (b := ?_) (cs := ?_) tab_is rfl rfl rfl rfl ?_ ?_ ?_) ?_
      rotate_left 2
      refine (Hp.at_push_lt ?_).trans ?_
      · simp; done
      refine Hp.at_put_eq ?_
      · simp; done
      · exact Nat.le_of_ble_eq_true rfl
      · simp [Value.cells]; rfl
    refine GOps.w rfl rfl rfl rfl (gop_call rfl Try.call15 rfl ?_ (g_right5 _ _ hk)) ?_
    · intro _ h; cases h; done
    rintro _ Hxe2 ⟨rfl, xe2⟩
    have xe2l := HExt.len xe2; try simp at xe2l
    refine GOps.r rfl rfl rfl rfl (grd_assign rfl rfl) ?_
    refine GOps.nil ?_
    refine GWP.seq ?_
    refine GWP.seq ?_
    refine GWP.region ?_
    refine GOps.r rfl rfl rfl rfl (grd_move rfl rfl) ?_
    refine GOps.r rfl rfl rfl rfl (grd_nil rfl rfl) ?_
    refine GOps.r rfl rfl rfl rfl (grd_fieldAddr tab_is rfl rfl rfl rfl rfl) ?_
    focus
      refine GOps.r rfl rfl rfl rfl (grd_load1 (b := ?_) (v := ?_) tab_is rfl rfl rfl rfl ?_ ?_) ?_
      rotate_left 2
      refine (HExt.eq (by assumption) _ ?_ ?_).trans ?_
      · simp; done
      · intro h; cases h; done
      refine Hp.at_push_id ?_
      · simp; done
      · rfl
    refine GOps.r rfl rfl rfl rfl (grd_neq rfl rfl rfl) ?_
    refine GOps.r rfl rfl rfl rfl (grd_move rfl rfl) ?_
    refine GOps.take rfl rfl ?_ ?_
    · simp; done
    refine GOps.r rfl rfl rfl rfl (grd_move rfl rfl) ?_
    refine GOps.take rfl rfl ?_ ?_
    · simp; done
    refine GOps.r rfl rfl rfl rfl (grd_nil rfl rfl) ?_
    refine GOps.take rfl rfl ?_ ?_
    · simp; done
    refine GOps.r rfl rfl rfl rfl (grd_fieldAddr tab_is rfl rfl rfl rfl rfl) ?_
    refine GOps.take rfl rfl ?_ ?_
    · simp; done
    focus
      refine GOps.r rfl rfl rfl rfl (grd_load1 (b := ?_) (v := ?_) tab_is rfl rfl rfl rfl ?_ ?_) ?_
      rotate_left 2
      refine (HExt.eq (by assumption) _ ?_ ?_).trans ?_
      · simp; done
      · intro h; cases h; done
      refine Hp.at_push_id ?_
      · simp; done
      · rfl
    refine GOps.take rfl rfl ?_ ?_
    · simp; done
    refine GOps.r rfl rfl rfl rfl (grd_len tab_is rfl rfl rfl rfl rfl) ?_
    refine GOps.take rfl rfl ?_ ?_
    · simp; done
    refine GOps.r rfl rfl rfl rfl (grd_gtr rfl rfl rfl) ?_
    refine GOps.r rfl rfl rfl rfl (grd_pick_f rfl rfl ?_ rfl) ?_
    · exact decide_eq_false (by omega)
    refine GOps.r rfl rfl rfl rfl (grd_move rfl rfl) ?_
    refine GOps.split rfl rfl (fun e3 => ?_) (fun e3 => ?_)
    simp only [beq_true, beq_false, Bool.not_true, Bool.not_false, Bool.not_eq_true', Bool.not_eq_false', decide_eq_true_eq, decide_eq_false_iff_not] at e3
    refine GOps.take rfl rfl ?_ ?_
    · exact beq_iff_eq.2 (decide_eq_false (by assumption))
    refine GOps.r rfl rfl rfl rfl (grd_move rfl rfl) ?_
    refine GOps.take rfl rfl ?_ ?_
    · exact beq_iff_eq.2 (decide_eq_false (by assumption))
    refine GOps.r rfl rfl rfl rfl (grd_not rfl rfl) ?_
    refine GOps.r rfl rfl rfl rfl (grd_pick_f rfl rfl ?_ rfl) ?_
    · exact decide_eq_false (by assumption)
    refine GOps.nil ?_
    refine GWP.cond_t rfl ?_ ?_
    · simp; done
    refine GWP.seq ?_
    refine GWP.region ?_
    focus
      refine GOps.r rfl rfl rfl rfl (grd_build (cs := ?_) tab_is rfl rfl rfl ?_ rfl ?_) ?_
      rotate_left 1
      · decide
      · simp [gfill, gsets, Value.cells]; rfl
    focus
      refine GOps.s rfl rfl rfl (gop_storeC (b := ?_) (cs := ?_) tab_is rfl rfl ?_ rfl rfl ?_ ?_ ?_ ?_ ?_ ?_) ?_
      rotate_left 2
      · rfl
      · rfl
      refine (HExt.eq (by assumption) _ ?_ ?_).trans ?_
      · simp; omega
      · intro h; cases h; done
      refine (Hp.at_push_lt ?_).trans ?_
      · simp; omega
      refine (Hp.at_put_ne ?_).trans ?_
      · omega
      refine (Hp.at_push_lt ?_).trans ?_
      · simp; done
      · exact Hp.at_push_eq
      · rfl
      · decide
      · exact .inr (by simp)
      · simp [splice, Value.cells]; rfl
    refine GOps.r rfl rfl rfl rfl (grd_assign rfl rfl) ?_
    refine GOps.nil ?_
    refine GWP.ret ?_
    focus
      refine ⟨_, (.two (gres_cellNK (b := ?_) (cs := ?_) rfl rfl rfl ?_ ?_ ?_) (.one rfl)), ?_⟩
      rotate_left 2
      refine Hp.at_put_eq ?_
      · omega
      · decide
      · simp [Value.cells]; rfl
    refine ⟨?_, ?_⟩
    · rfl
    refine HExt.put ?_ ?_
    refine HExt.tr ?_ (by assumption) ?_
    refine HExt.push ?_
    refine HExt.put ?_ ?_
    refine HExt.push ?_
    refine HExt.push ?_
    · exact HExt.refl _ _
    · exact .inr (by omega)
    · intro _ h; cases h; done
    · exact .inr (by omega)
    simp only [beq_true, beq_false, Bool.not_true, Bool.not_false, Bool.not_eq_true', Bool.not_eq_false', decide_eq_true_eq, decide_eq_false_iff_not] at e3
    refine GOps.no rfl ?_ rfl rfl ?_
    · exact beq_eq_false_iff_ne.2 (by rw [decide_eq_true (by assumption)]; decide)
    refine GOps.no rfl ?_ rfl rfl ?_
    · exact beq_eq_false_iff_ne.2 (by rw [decide_eq_true (by assumption)]; decide)
    refine GOps.r rfl rfl rfl rfl (grd_pick_t rfl rfl ?_ rfl) ?_
    · exact decide_eq_true (by assumption)
    refine GOps.nil ?_
    refine GWP.cond_t rfl ?_ ?_
    · with_reducible rfl
    refine GWP.seq ?_
    refine GWP.region ?_
    focus
      refine GOps.r rfl rfl rfl rfl (grd_build (cs := ?_) tab_is rfl rfl rfl ?_ rfl ?_) ?_
      rotate_left 1
      · decide
      · simp [gfill, gsets, Value.cells]; rfl
    focus
      refine GOps.s rfl rfl rfl (gop_storeC (b := ?_) (cs := ?_) tab_is rfl rfl ?_ rfl rfl ?_ ?_ ?_ ?_ ?_ ?_) ?_
      rotate_left 2
      · rfl
      · rfl
      refine (HExt.eq (by assumption) _ ?_ ?_).trans ?_
      · simp; omega
      · intro h; cases h; done
      refine (Hp.at_push_lt ?_).trans ?_
      · simp; omega
      refine (Hp.at_put_ne ?_).trans ?_
      · omega
      refine (Hp.at_push_lt ?_).trans ?_
      · simp; done
      · exact Hp.at_push_eq
      · rfl
      · decide
      · exact .inr (by simp)
      · simp [splice, Value.cells]; rfl
    refine GOps.r rfl rfl rfl rfl (grd_assign rfl rfl) ?_
    refine GOps.nil ?_
    refine GWP.ret ?_
    focus
      refine ⟨_, (.two (gres_cellNK (b := ?_) (cs := ?_) rfl rfl rfl ?_ ?_ ?_) (.one rfl)), ?_⟩
      rotate_left 2
      refine Hp.at_put_eq ?_
      · omega
      · decide
      · simp [Value.cells]; rfl
    refine ⟨?_, ?_⟩
    · rfl
    refine HExt.put ?_ ?_
    refine HExt.tr ?_ (by assumption) ?_
    refine HExt.push ?_
    refine HExt.put ?_ ?_
    refine HExt.push ?_
    refine HExt.push ?_
    · exact HExt.refl _ _
    · exact .inr (by omega)
    · intro _ h; cases h; done
    · exact .inr (by omega)
set_option maxHeartbeats 4000000 in
set_option maxRecDepth 100000 in
set_option linter.unusedSimpArgs false in
theorem g_rpar2 (H : Hp) (p : Option Addr) (n c : Nat) (M : List UInt8) (hb : BS H (.slice p n c) (2 :: M)) (hn : n ≤ 35184372088832) (r1 : Nat × RdS) (h1 : RdS.number ⟨M, 0⟩ 255 = r1) (hle : r1.2.l.length ≤ M.length) : GCalls Try.prog 40 [.slice p n c] [] H fun v H' => v = (if r1.2.e ≠ 0 ∨ ¬ dataOk r1.1 r1.2.l.length then .tuple #[recT 0 0 0 0 0 [] 0 0 0, .bool false] else .tuple #[recT 2 0 0 r1.1 ((r1.1 + r1.2.l.length / 32 : Nat) : Int) r1.2.l 0 0 0, .bool true]) ∧ HExt [] H H' := by
  have hl := hb.len
  simp only [List.length_cons] at hl
  subst hl
  have t1 := numG_le h1
  refine GCalls.body tab_is Try.func40 rfl Try.results40 Try.ntmps40 (by simp) ?_ ?_
  · first | (intro _ h; cases h; done) | (simp; done) | (simp; omega) | (intro i hi; simp at hi; rcases hi with rfl | rfl <;> omega) | (intro i hi; simp at hi; rcases hi with rfl | rfl | rfl <;> omega)
  focus
    refine GWP.seq ?_
    refine GWP.region ?_
    focus
      refine GOps.w1 rfl rfl rfl rfl (gop_alloc' (id := ?_) ?_ tab_is rfl rfl ?_) ?_
      rotate_left 1
      · rfl
      · decide
    refine GOps.r rfl rfl rfl rfl (grd_assign rfl rfl) ?_
    refine GOps.nil ?_
    refine GWP.seq ?_
    refine GWP.seq ?_
    refine GWP.region ?_
    refine GOps.r rfl rfl rfl rfl (grd_move rfl rfl) ?_
    refine GOps.r rfl rfl rfl rfl (grd_len tab_is rfl rfl rfl rfl rfl) ?_
    refine GOps.r rfl rfl rfl rfl (grd_eql rfl rfl rfl) ?_
    refine GOps.nil ?_
    refine GWP.cond_f rfl ?_ ?_
    · exact decide_eq_false (by omega)
    refine GWP.skip ?_
    refine GWP.seq ?_
    refine GWP.region ?_
    refine GOps.r rfl rfl rfl rfl (grd_move rfl rfl) ?_
    focus
      refine GOps.r rfl rfl rfl rfl (grd_indexBS (q := ?_) (L := ?_) tab_is rfl rfl rfl rfl rfl ?_ ?_ ?_) ?_
      rotate_left 2
      focus
        refine BS.ext (by assumption) ?_
        refine HExt.push ?_
        · exact HExt.refl _ _
      · rfl
      · exact Nat.le_of_ble_eq_true rfl
    focus
      refine GOps.re rfl rfl rfl rfl (grd_loadBSK (n := ?_) (c := ?_) (L := ?_) (u := ?_) tab_is rfl rfl rfl rfl ?_ ?_ ?_) ?_
      rotate_left 4
      focus
        refine BS.ext (by assumption) ?_
        refine HExt.push ?_
        · exact HExt.refl _ _
      · exact Nat.le_of_ble_eq_true rfl
      · simp only [List.getD_cons_zero]; rfl
    focus
      refine GOps.r rfl rfl rfl rfl (grd_build (cs := ?_) tab_is rfl rfl rfl ?_ rfl ?_) ?_
      rotate_left 1
      · decide
      · simp [gfill, gsets, Value.cells]; rfl
    focus
      refine GOps.w1 rfl rfl rfl rfl (gop_alloc' (id := ?_) ?_ tab_is rfl rfl ?_) ?_
      rotate_left 1
      · simp; rfl
      · decide
    focus
      refine GOps.s rfl rfl rfl (gop_storeC (b := ?_) (cs := ?_) tab_is rfl rfl ?_ rfl rfl ?_ ?_ ?_ ?_ ?_ ?_) ?_
      rotate_left 2
      · rfl
      · rfl
      refine Hp.at_push_id ?_
      · simp; done
      · rfl
      · decide
      · exact .inr (by simp)
      · simp [splice, Value.cells]; rfl
    refine GOps.nil ?_
    refine GWP.seq ?_
    refine GWP.region ?_
    refine GOps.r rfl rfl rfl rfl (grd_move rfl rfl) ?_
    focus
      refine gops_bs rfl rfl rfl rfl (grd_slBS (l := ?_) (h := ?_) (m2 := ?_) (L := ?_) (M := ?_) tab_is rfl rfl rfl rfl ?_ ?_ ?_ ?_ ?_ ?_ ?_) ?_
      rotate_left 5
      focus
        refine BS.ext (by assumption) ?_
        refine HExt.put ?_ ?_
        refine HExt.push ?_
        refine HExt.push ?_
        · exact HExt.refl _ _
        · exact .inr (by omega)
      · refine gbound_const ?_; exact rfl
      · exact rfl
      · exact Nat.le_of_ble_eq_true rfl
      · omega
      · simp; rfl
      · refine Eq.trans (List.take_of_length_le ?_) ?_; rotate_left 1; rfl; (simp; done)
    intro pf1 cf1 f1
    have f1n := BS.len f1
    focus
      refine GOps.r rfl rfl rfl rfl (grd_build (cs := ?_) tab_is rfl rfl rfl ?_ rfl ?_) ?_
      rotate_left 1
      · decide
      · simp [gfill, gsets, Value.cells]; rfl
    focus
      refine GOps.w1 rfl rfl rfl rfl (gop_box' (id := ?_) ?_ rfl rfl rfl) ?_
      rotate_left 1
      · simp; rfl
    refine GOps.r rfl rfl rfl rfl (grd_assign rfl rfl) ?_
    refine GOps.nil ?_
    refine GWP.seq ?_
    refine GWP.region ?_
    refine GOps.r rfl rfl rfl rfl (grd_assign rfl rfl) ?_
    refine GOps.nil ?_
    refine GWP.seq ?_
    refine GWP.seq ?_
    refine GWP.region ?_
    refine GOps.r rfl rfl rfl rfl (grd_fieldAddr tab_is rfl rfl rfl rfl rfl) ?_
    focus
      refine GOps.r rfl rfl rfl rfl (grd_load1 (b := ?_) (v := ?_) tab_is rfl rfl rfl rfl ?_ ?_) ?_
      rotate_left 2
      refine (Hp.at_push_lt ?_).trans ?_
      · simp; done
      refine Hp.at_put_eq ?_
      · simp; done
      · rfl
    refine GOps.nil ?_
    refine GWP.block ?_
    refine GWP.seq ?_
    refine GWP.region ?_
    refine GOps.r rfl rfl rfl rfl (grd_eql rfl rfl rfl) ?_
    refine GOps.r rfl rfl rfl rfl (grd_assign rfl rfl) ?_
    refine GOps.nil ?_
    refine GWP.cond_f rfl ?_ ?_
    · exact decide_eq_false (by omega)
    refine GWP.seq ?_
    refine GWP.region ?_
    refine GOps.r rfl rfl rfl rfl (grd_eql rfl rfl rfl) ?_
    refine GOps.r rfl rfl rfl rfl (grd_assign rfl rfl) ?_
    refine GOps.nil ?_
    refine GWP.cond_t rfl ?_ ?_
    · exact decide_eq_true (by omega)
    refine GWP.seq ?_
    refine GWP.region ?_
    refine GOps.r rfl rfl rfl rfl (grd_move rfl rfl) ?_
    focus
      refine GOps.w rfl rfl rfl rfl (gop_call rfl Try.call27 rfl ?_ (g_rnumG _ _ _ h1 _ ?_ _ _ ?_ ?_ ?_)) ?_
      · simp [Ctx.may]; omega
      · omega
      rotate_left 2
      refine rg_mk (b := ?_) ?_ ?_ ?_ ?_
      rotate_left 1
      refine Hp.at_push_id ?_
      · simp; done
      · rfl
      focus
        refine BS.ext (by assumption) ?_
        refine HExt.push ?_
        · exact HExt.refl _ _
      · simp only; omega
    rintro _ Hxf6 ⟨rfl, ⟨pf2, cf3, rf4⟩, kf5, xf6⟩
    have xf6l := HExt.len xf6; try simp at xf6l
    have rf4g := RG.hg rf4; unfold rdBlk at rf4g; have rf4q := Hp.at_lt rf4g; have rf4b := RG.hb rf4
    refine GOps.r rfl rfl rfl rfl (grd_conv_in tab_is rfl rfl rfl rfl rfl ?_) ?_
    · refine wrap_i64_in ?_; omega
    refine GOps.r rfl rfl rfl rfl (grd_fieldAddr tab_is rfl rfl rfl rfl rfl) ?_
    focus
      refine GOps.s rfl rfl rfl (gop_store1 (b := ?_) tab_is rfl rfl rfl rfl rfl rfl ?_ ?_ ?_ ?_) ?_
      rotate_left 1
      refine (HExt.eq (by assumption) _ ?_ ?_).trans ?_
      · simp; done
      · simp; done
      refine (Hp.at_push_lt ?_).trans ?_
      · simp; done
      refine Hp.at_put_eq ?_
      · simp; done
      · rfl
      · decide
      · exact .inr (by simp)
    refine GOps.nil ?_
    refine GWP.seq ?_
    refine GWP.drawT 10 (by kernel_rfl) (by kernel_rfl) (by simp only [List.take_succ_cons, List.take_zero]; rfl) (by simp only [List.drop_succ_cons, List.drop_zero]; rfl) ?_
    refine GQ.r rfl rfl rfl rfl (grd_fieldAddr tab_is rfl rfl rfl rfl rfl) ?_ ?_
    · exact .inl rfl
    focus
      refine GQ.r rfl rfl rfl rfl (grd_load1 (b := ?_) (v := ?_) tab_is rfl rfl rfl rfl ?_ ?_) ?_ ?_
      rotate_left 2
      refine Hp.at_put_eq ?_
      · omega
      · rfl
      · exact .inl rfl
    refine GQ.r rfl rfl rfl rfl (grd_move rfl rfl) ?_ ?_
    · exact .inl rfl
    refine GQ.r rfl rfl rfl rfl (grd_nil rfl rfl) ?_ ?_
    · exact .inl rfl
    refine GQ.r rfl rfl rfl rfl (grd_fieldAddr tab_is rfl rfl rfl rfl rfl) ?_ ?_
    · exact .inl rfl
    focus
      refine GQ.r rfl rfl rfl rfl (grd_load1 (b := ?_) (v := ?_) tab_is rfl rfl rfl rfl ?_ ?_) ?_ ?_
      rotate_left 2
      refine (Hp.at_put_ne ?_).trans ?_
      · omega
      · assumption
      · rfl
      · exact .inl rfl
    refine GQ.r rfl rfl rfl rfl (grd_len tab_is rfl rfl rfl rfl rfl) ?_ ?_
    · exact .inl rfl
    refine GQ.r rfl rfl rfl rfl (grd_quo64 rfl rfl rfl ?_ ?_) ?_ ?_
    · omega
    · omega
    · exact .inl rfl
    refine GQ.r rfl rfl rfl rfl (grd_add64 rfl rfl rfl ?_) ?_ ?_
    · omega
    · exact .inl rfl
    refine GQ.r rfl rfl rfl rfl (grd_fieldAddr tab_is rfl rfl rfl rfl rfl) ?_ ?_
    · exact .inl rfl
    refine GQ.nil ?_
    focus
      refine GOps.s rfl rfl rfl (gop_store1 (b := ?_) tab_is rfl rfl rfl rfl rfl rfl ?_ ?_ ?_ ?_) ?_
      rotate_left 1
      refine Hp.at_put_eq ?_
      · omega
      · rfl
      · exact Nat.le_of_ble_eq_true rfl
      · exact .inr (by simp)
    refine GOps.nil ?_
    refine GWP.seq ?_
    refine GWP.region ?_
    refine GOps.r rfl rfl rfl rfl (grd_move rfl rfl) ?_
    refine GOps.r rfl rfl rfl rfl (grd_nil rfl rfl) ?_
    refine GOps.r rfl rfl rfl rfl (grd_fieldAddr tab_is rfl rfl rfl rfl rfl) ?_
    focus
      refine GOps.r rfl rfl rfl rfl (grd_load1 (b := ?_) (v := ?_) tab_is rfl rfl rfl rfl ?_ ?_) ?_
      rotate_left 2
      refine (Hp.at_put_ne ?_).trans ?_
      · omega
      refine (Hp.at_put_ne ?_).trans ?_
      · omega
      · assumption
      · rfl
    focus
      refine GOps.re rfl rfl rfl rfl (grd_strBS (L := ?_) tab_is rfl rfl rfl rfl rfl rfl rfl rfl ?_) ?_
      rotate_left 1
      focus
        refine bs_put (b := ?_) ?_ ?_ ?_
        rotate_left 3
        focus
          refine bs_put (b := ?_) ?_ ?_ ?_
          rotate_left 3
          focus
            · assumption
          rotate_left 1
          refine (HExt.eq (by assumption) _ ?_ ?_).trans ?_
          · simp; done
          · simp; done
          refine (Hp.at_push_lt ?_).trans ?_
          · simp; done
          refine Hp.at_put_eq ?_
          · simp; done
          · rfl
        rotate_left 1
        refine Hp.at_put_eq ?_
        · omega
        · rfl
    refine GOps.r rfl rfl rfl rfl (grd_fieldAddr tab_is rfl rfl rfl rfl rfl) ?_
    focus
      refine GOps.s rfl rfl rfl (gop_store1 (b := ?_) tab_is rfl rfl rfl rfl rfl rfl ?_ ?_ ?_ ?_) ?_
      rotate_left 1
      refine Hp.at_put_eq ?_
      · simp; omega
      · rfl
      · exact Nat.le_of_ble_eq_true rfl
      · exact .inr (by simp)
    refine GOps.nil ?_
    refine GWP.region ?_
    refine GOps.r rfl rfl rfl rfl (grd_move rfl rfl) ?_
    refine GOps.r rfl rfl rfl rfl (grd_nil rfl rfl) ?_
    refine GOps.r rfl rfl rfl rfl (grd_fieldAddr tab_is rfl rfl rfl rfl rfl) ?_
    focus
      refine GOps.s rfl rfl rfl (gop_store1 (b := ?_) tab_is rfl rfl rfl rfl rfl rfl ?_ ?_ ?_ ?_) ?_
      rotate_left 1
      refine (Hp.at_put_ne ?_).trans ?_
      · omega
      refine (Hp.at_put_ne ?_).trans ?_
      · omega
      refine (Hp.at_put_ne ?_).trans ?_
      · omega
      · assumption
      · rfl
      · exact Nat.le_of_ble_eq_true rfl
      · exact .inr (by simp; omega)
    refine GOps.nil ?_
    refine GWP.seq ?_
    refine GWP.region ?_
    focus
      refine GOps.r rfl rfl rfl rfl (grd_loadNK (b := ?_) (cs := ?_) tab_is rfl rfl rfl rfl ?_ ?_ ?_) ?_
      rotate_left 2
      refine (Hp.at_put_ne ?_).trans ?_
      · omega
      refine Hp.at_put_eq ?_
      · simp; omega
      · exact Nat.le_of_ble_eq_true rfl
      · simp [Value.cells]; rfl
    refine GOps.w rfl rfl rfl rfl (gop_call rfl Try.call15 rfl ?_ (g_right2 _ _ _ _ ?_ ?_ ?_)) ?_
    · intro _ h; cases h; done
    · omega
    · simp; done
    · simp; omega
    rintro _ Hxf7 ⟨rfl, xf7⟩
    have xf7l := HExt.len xf7; try simp at xf7l
    refine GOps.r rfl rfl rfl rfl (grd_assign rfl rfl) ?_
    refine GOps.nil ?_
    refine GWP.seq ?_
    refine GWP.seq ?_
    refine GWP.region ?_
    refine GOps.r rfl rfl rfl rfl (grd_move rfl rfl) ?_
    refine GOps.r rfl rfl rfl rfl (grd_nil rfl rfl) ?_
    refine GOps.r rfl rfl rfl rfl (grd_fieldAddr tab_is rfl rfl rfl rfl rfl) ?_
    focus
      refine GOps.r rfl rfl rfl rfl (grd_load1 (b := ?_) (v := ?_) tab_is rfl rfl rfl rfl ?_ ?_) ?_
      rotate_left 2
      refine (HExt.eq (by assumption) _ ?_ ?_).trans ?_
      · simp; omega
      · intro h; cases h; done
      refine Hp.at_put_eq ?_
      · simp; omega
      · rfl
    refine GOps.r rfl rfl rfl rfl (grd_neq rfl rfl rfl) ?_
    refine GOps.r rfl rfl rfl rfl (grd_move rfl rfl) ?_
    refine GOps.split rfl rfl (fun f8 => ?_) (fun f8 => ?_)
    simp only [beq_true, beq_false, Bool.not_true, Bool.not_false, Bool.not_eq_true', Bool.not_eq_false', decide_eq_true_eq, decide_eq_false_iff_not] at f8
    refine GOps.take rfl rfl ?_ ?_
    · exact beq_iff_eq.2 (decide_eq_false (by assumption))
    refine GOps.r rfl rfl rfl rfl (grd_move rfl rfl) ?_
    refine GOps.take rfl rfl ?_ ?_
    · exact beq_iff_eq.2 (decide_eq_false (by assumption))
    refine GOps.r rfl rfl rfl rfl (grd_nil rfl rfl) ?_
    refine GOps.take rfl rfl ?_ ?_
    · exact beq_iff_eq.2 (decide_eq_false (by assumption))
    refine GOps.r rfl rfl rfl rfl (grd_fieldAddr tab_is rfl rfl rfl rfl rfl) ?_
    refine GOps.take rfl rfl ?_ ?_
    · exact beq_iff_eq.2 (decide_eq_false (by assumption))
    focus
      refine GOps.r rfl rfl rfl rfl (grd_load1 (b := ?_) (v := ?_) tab_is rfl rfl rfl rfl ?_ ?_) ?_
      rotate_left 2
      refine (HExt.eq (by assumption) _ ?_ ?_).trans ?_
      · simp; omega
      · intro h; cases h; done
      refine Hp.at_put_eq ?_
      · simp; omega
      · rfl
    refine GOps.take rfl rfl ?_ ?_
    · exact beq_iff_eq.2 (decide_eq_false (by assumption))
    refine GOps.r rfl rfl rfl rfl (grd_len tab_is rfl rfl rfl rfl rfl) ?_
    refine GOps.take rfl rfl ?_ ?_
    · exact beq_iff_eq.2 (decide_eq_false (by assumption))
    refine GOps.r rfl rfl rfl rfl (grd_gtr rfl rfl rfl) ?_
    refine GOps.r rfl rfl rfl rfl (grd_pick_f rfl rfl ?_ rfl) ?_
    · exact decide_eq_false (by assumption)
    refine GOps.r rfl rfl rfl rfl (grd_move rfl rfl) ?_
    refine GOps.take rfl rfl ?_ ?_
    · simp; done
    refine GOps.r rfl rfl rfl rfl (grd_move rfl rfl) ?_
    refine GOps.take rfl rfl ?_ ?_
    · simp; done
    refine GOps.r rfl rfl rfl rfl (grd_not rfl rfl) ?_
    refine GOps.r rfl rfl rfl rfl (grd_pick_f rfl rfl ?_ rfl) ?_
    · exact decide_eq_false (by omega)
    refine GOps.nil ?_
    refine GWP.cond rfl (fun f9 => ?_) (fun f9 => ?_)
    simp only [beq_true, beq_false, Bool.not_true, Bool.not_false, Bool.not_eq_true', Bool.not_eq_false', decide_eq_true_eq, decide_eq_false_iff_not] at f9
    refine GWP.seq ?_
    refine GWP.region ?_
    focus
      refine GOps.r rfl rfl rfl rfl (grd_build (cs := ?_) tab_is rfl rfl rfl ?_ rfl ?_) ?_
      rotate_left 1
      · decide
      · simp [gfill, gsets, Value.cells]; rfl
    focus
      refine GOps.s rfl rfl rfl (gop_storeC (b := ?_) (cs := ?_) tab_is rfl rfl ?_ rfl rfl ?_ ?_ ?_ ?_ ?_ ?_) ?_
      rotate_left 2
      · rfl
      · rfl
      refine (HExt.eq (by assumption) _ ?_ ?_).trans ?_
      · simp; omega
      · intro h; cases h; done
      refine (Hp.at_put_ne ?_).trans ?_
      · omega
      refine (Hp.at_put_ne ?_).trans ?_
      · omega
      refine (Hp.at_put_ne ?_).trans ?_
      · omega
      refine (Hp.at_put_ne ?_).trans ?_
      · omega
      refine (HExt.eq (by assumption) _ ?_ ?_).trans ?_
      · simp; omega
      · simp; omega
      refine (Hp.at_push_lt ?_).trans ?_
      · simp; omega
      refine (Hp.at_put_ne ?_).trans ?_
      · omega
      refine (Hp.at_push_lt ?_).trans ?_
      · simp; done
      · exact Hp.at_push_eq
      · rfl
      · decide
      · exact .inr (by simp)
      · simp [splice, Value.cells]; rfl
    refine GOps.r rfl rfl rfl rfl (grd_assign rfl rfl) ?_
    refine GOps.nil ?_
    refine GWP.ret ?_
    focus
      refine ⟨_, (.two (gres_cellNK (b := ?_) (cs := ?_) rfl rfl rfl ?_ ?_ ?_) (.one rfl)), ?_⟩
      rotate_left 2
      refine Hp.at_put_eq ?_
      · omega
      · decide
      · simp [Value.cells]; rfl
    refine ⟨?_, ?_⟩
    · rw [if_pos (by unfold dataOk; simp only [decide_eq_true_eq, decide_eq_false_iff_not] at *; omega)]; rfl
    refine HExt.put ?_ ?_
    refine HExt.tr ?_ (by assumption) ?_
    refine HExt.put ?_ ?_
    refine HExt.put ?_ ?_
    refine HExt.put ?_ ?_
    refine HExt.put ?_ ?_
    refine HExt.tr ?_ (by assumption) ?_
    refine HExt.push ?_
    refine HExt.put ?_ ?_
    refine HExt.push ?_
    refine HExt.push ?_
    · exact HExt.refl _ _
    · exact .inr (by omega)
    · simp; omega
    · exact .inr (by omega)
    · exact .inr (by omega)
    · exact .inr (by omega)
    · exact .inr (by omega)
    · intro _ h; cases h; done
    · exact .inr (by omega)
    simp only [beq_true, beq_false, Bool.not_true, Bool.not_false, Bool.not_eq_true', Bool.not_eq_false', decide_eq_true_eq, decide_eq_false_iff_not] at f9
    refine GWP.skip ?_
    refine GWP.seq ?_
    refine GWP.region ?_
    focus
      refine GOps.r rfl rfl rfl rfl (grd_loadNK (b := ?_) (cs := ?_) tab_is rfl rfl rfl rfl ?_ ?_ ?_) ?_
      rotate_left 2
      refine (HExt.eq (by assumption) _ ?_ ?_).trans ?_
      · simp; omega
      · intro h; cases h; done
      refine (Hp.at_put_ne ?_).trans ?_
      · omega
      refine Hp.at_put_eq ?_
      · simp; omega
      · exact Nat.le_of_ble_eq_true rfl
      · simp [Value.cells]; rfl
    focus
      refine GOps.s rfl rfl rfl (gop_storeC (b := ?_) (cs := ?_) tab_is rfl rfl ?_ rfl rfl ?_ ?_ ?_ ?_ ?_ ?_) ?_
      rotate_left 2
      · rfl
      · rfl
      refine (HExt.eq (by assumption) _ ?_ ?_).trans ?_
      · simp; omega
      · intro h; cases h; done
      refine (Hp.at_put_ne ?_).trans ?_
      · omega
      refine (Hp.at_put_ne ?_).trans ?_
      · omega
      refine (Hp.at_put_ne ?_).trans ?_
      · omega
      refine (Hp.at_put_ne ?_).trans ?_
      · omega
      refine (HExt.eq (by assumption) _ ?_ ?_).trans ?_
      · simp; omega
      · simp; omega
      refine (Hp.at_push_lt ?_).trans ?_
      · simp; omega
      refine (Hp.at_put_ne ?_).trans ?_
      · omega
      refine (Hp.at_push_lt ?_).trans ?_
      · simp; done
      · exact Hp.at_push_eq
      · rfl
      · exact Nat.le_of_ble_eq_true rfl
      · exact .inr (by simp)
      · simp [splice, Value.cells]; rfl
    refine GOps.r rfl rfl rfl rfl (grd_assign rfl rfl) ?_
    refine GOps.nil ?_
    refine GWP.ret ?_
    focus
      refine ⟨_, (.two (gres_cellNK (b := ?_) (cs := ?_) rfl rfl rfl ?_ ?_ ?_) (.one rfl)), ?_⟩
      rotate_left 2
      refine Hp.at_put_eq ?_
      · omega
      · exact Nat.le_of_ble_eq_true rfl
      · simp [Value.cells]; rfl
    refine ⟨?_, ?_⟩
    · rw [if_neg (by unfold dataOk; simp only [decide_eq_true_eq, decide_eq_false_iff_not] at *; omega)]; rfl
    refine HExt.put ?_ ?_
    refine HExt.tr ?_ (by assumption) ?_
    refine HExt.put ?_ ?_
    refine HExt.put ?_ ?_
    refine HExt.put ?_ ?_
    refine HExt.put ?_ ?_
    refine HExt.tr ?_ (by assumption) ?_
    refine HExt.push ?_
    refine HExt.put ?_ ?_
    refine HExt.push ?_
    refine HExt.push ?_
    · exact HExt.refl _ _
    · exact .inr (by omega)
    · simp; omega
    · exact .inr (by omega)
    · exact .inr (by omega)
    · exact .inr (by omega)
    · exact .inr (by omega)
    · intro _ h; cases h; done
    · exact .inr (by omega)
    simp only [beq_true, beq_false, Bool.not_true, Bool.not_false, Bool.not_eq_true', Bool.not_eq_false', decide_eq_true_eq, decide_eq_false_iff_not] at f8
    refine GOps.no rfl ?_ rfl rfl ?_
    · exact beq_eq_false_iff_ne.2 (by rw [decide_eq_true (by assumption)]; decide)
    refine GOps.no rfl ?_ rfl rfl ?_
    · exact beq_eq_false_iff_ne.2 (by rw [decide_eq_true (by assumption)]; decide)
    refine GOps.no rfl ?_ rfl rfl ?_
    · exact beq_eq_false_iff_ne.2 (by rw [decide_eq_true (by assumption)]; decide)
    refine GOps.no rfl ?_ rfl rfl ?_
    · exact beq_eq_false_iff_ne.2 (by rw [decide_eq_true (by assumption)]; decide)
    refine GOps.no rfl ?_ rfl rfl ?_
    · exact beq_eq_false_iff_ne.2 (by rw [decide_eq_true (by assumption)]; decide)
    refine GOps.no rfl ?_ rfl rfl ?_
    · exact beq_eq_false_iff_ne.2 (by rw [decide_eq_true (by assumption)]; decide)
    refine GOps.r rfl rfl rfl rfl (grd_pick_t rfl rfl ?_ rfl) ?_
    · exact decide_eq_true (by assumption)
    refine GOps.r rfl rfl rfl rfl (grd_move rfl rfl) ?_
    refine GOps.no rfl ?_ rfl rfl ?_
    · simp; done
    refine GOps.no rfl ?_ rfl rfl ?_
    · simp; done
    refine GOps.r rfl rfl rfl rfl (grd_pick_t rfl rfl ?_ rfl) ?_
    · with_reducible rfl
    refine GOps.nil ?_
    refine GWP.cond_t rfl ?_ ?_
    · with_reducible rfl
    refine GWP.seq ?_
    refine GWP.region ?_
    focus
      refine GOps.r rfl rfl rfl rfl (grd_build (cs := ?_) tab_is rfl rfl rfl ?_ rfl ?_) ?_
      rotate_left 1
      · decide
      · simp [gfill, gsets, Value.cells]; rfl
    focus
      refine GOps.s rfl rfl rfl (gop_storeC (b := ?_) (cs := ?_) tab_is rfl rfl ?_ rfl rfl ?_ ?_ ?_ ?_ ?_ ?_) ?_
      rotate_left 2
      · rfl
      · rfl
      refine (HExt.eq (by assumption) _ ?_ ?_).trans ?_
      · simp; omega
      · intro h; cases h; done
      refine (Hp.at_put_ne ?_).trans ?_
      · omega
      refine (Hp.at_put_ne ?_).trans ?_
      · omega
      refine (Hp.at_put_ne ?_).trans ?_
      · omega
      refine (Hp.at_put_ne ?_).trans ?_
      · omega
      refine (HExt.eq (by assumption) _ ?_ ?_).trans ?_
      · simp; omega
      · simp; omega
      refine (Hp.at_push_lt ?_).trans ?_
      · simp; omega
      refine (Hp.at_put_ne ?_).trans ?_
      · omega
      refine (Hp.at_push_lt ?_).trans ?_
      · simp; done
      · exact Hp.at_push_eq
      · rfl
      · decide
      · exact .inr (by simp)
      · simp [splice, Value.cells]; rfl
    refine GOps.r rfl rfl rfl rfl (grd_assign rfl rfl) ?_
    refine GOps.nil ?_
    refine GWP.ret ?_
    focus
      refine ⟨_, (.two (gres_cellNK (b := ?_) (cs := ?_) rfl rfl rfl ?_ ?_ ?_) (.one rfl)), ?_⟩
      rotate_left 2
      refine Hp.at_put_eq ?_
      · omega
      · decide
      · simp [Value.cells]; rfl
    refine ⟨?_, ?_⟩
    · rw [if_pos (by unfold dataOk; simp only [decide_eq_true_eq, decide_eq_false_iff_not] at *; omega)]; rfl
    refine HExt.put ?_ ?_
    refine HExt.tr ?_ (by assumption) ?_
    refine HExt.put ?_ ?_
    refine HExt.put ?_ ?_
    refine HExt.put ?_ ?_
    refine HExt.put ?_ ?_
    refine HExt.tr ?_ (by assumption) ?_
    refine HExt.push ?_
    refine HExt.put ?_ ?_
    refine HExt.push ?_
    refine HExt.push ?_
    · exact HExt.refl _ _
    · exact .inr (by omega)
    · simp; omega
    · exact .inr (by omega)
    · exact .inr (by omega)
    · exact .inr (by omega)
    · exact .inr (by omega)
    · intro _ h; cases h; done
    · exact .inr (by omega)
end Go.Proofs.Ytjlimdiimdihfaa

/- Records out of bytes: the document's, out of a reader. -/
namespace Go.Proofs.Ytjlimdiimdihfaa
open Go.RowKit

theorem fin_ne2 (s : RdS) : s.fin ≠ 0 ↔ (s.e ≠ 0 ∨ 0 < s.l.length) := by
  unfold RdS.fin
  split
  · simp [*]
  · split
    · simp [*]
    · simp_all
def RecS.valT (r : RecS) : Value := recT r.kind r.id r.base r.fr r.til r.blocks r.count r.len r.sum
theorem number_cases (s : RdS) (m : Nat) : (s.e ≠ 0 ∧ s.number m = (0, s)) ∨ (s.e = 0 ∧ (next s.l).2.2 ≠ 0 ∧ s.number m = (0, ⟨s.l, (next s.l).2.2⟩)) ∨ (s.e = 0 ∧ (next s.l).2.2 = 0 ∧ m < (next s.l).1 ∧ s.number m = (0, ⟨s.l, 5⟩)) ∨ (s.e = 0 ∧ (next s.l).2.2 = 0 ∧ (next s.l).1 ≤ m ∧ s.number m = ((next s.l).1, ⟨s.l.drop (next s.l).2.1, 0⟩)) := by
  unfold RdS.number
  by_cases h1 : s.e ≠ 0
  · exact .inl ⟨h1, if_pos h1⟩
  · by_cases h2 : (next s.l).2.2 ≠ 0
    · exact .inr (.inl ⟨by omega, h2, by rw [if_neg h1, if_pos h2]⟩)
    · by_cases h3 : m < (next s.l).1
      · exact .inr (.inr (.inl ⟨by omega, by omega, h3, by rw [if_neg h1, if_neg h2, if_pos h3]⟩))
      · exact .inr (.inr (.inr ⟨by omega, by omega, by omega, by rw [if_neg h1, if_neg h2, if_neg h3]⟩))
/-- What a number that may be greater leaves, and one that may not. -/
theorem number_most (s : RdS) (a b : Nat) (hab : a ≤ b) : ((s.number a).2.fin ≠ 0 ↔ ((s.number b).2.e ≠ 0 ∨ 0 < (s.number b).2.l.length ∨ a < (s.number b).1)) ∧ ((s.number a).2.fin = 0 → s.number a = s.number b) := by
  have hf := fin_ne2 (s.number a).2
  rcases number_cases s a with ⟨h1, h2⟩ | ⟨h1, h2, h3⟩ | ⟨h1, h2, h3, h4⟩ | ⟨h1, h2, h3, h4⟩
  · rcases number_cases s b with ⟨k1, k2⟩ | ⟨k1, k2⟩ | ⟨k1, k2⟩ | ⟨k1, k2⟩
    · rw [h2] at hf ⊢
      rw [k2]
      simp only at hf ⊢
      exact ⟨⟨fun _ => .inl h1, fun _ => hf.2 (.inl h1)⟩, fun _ => by first | trivial | rfl⟩
    all_goals exact absurd k1 h1
  · rcases number_cases s b with ⟨k1, k2⟩ | ⟨k1, k2, k3⟩ | ⟨k1, k2, k3⟩ | ⟨k1, k2, k3⟩
    · exact absurd h1 k1
    · rw [h3] at hf ⊢
      rw [k3]
      simp only at hf ⊢
      exact ⟨⟨fun _ => .inl h2, fun _ => hf.2 (.inl h2)⟩, fun _ => by first | trivial | rfl⟩
    all_goals exact absurd k2 h2
  · rcases number_cases s b with ⟨k1, k2⟩ | ⟨k1, k2, k3⟩ | ⟨k1, k2, k3, k4⟩ | ⟨k1, k2, k3, k4⟩
    · exact absurd h1 k1
    · exact absurd h2 k2
    · rw [h4] at hf ⊢
      rw [k4]
      simp only at hf ⊢
      exact ⟨⟨fun _ => .inl (by decide), fun _ => hf.2 (.inl (by decide))⟩, fun h => absurd h (hf.2 (.inl (by decide)))⟩
    · rw [h4] at hf ⊢
      rw [k4]
      simp only at hf ⊢
      exact ⟨⟨fun _ => .inr (.inr h3), fun _ => hf.2 (.inl (by decide))⟩, fun h => absurd h (hf.2 (.inl (by decide)))⟩
  · rcases number_cases s b with ⟨k1, k2⟩ | ⟨k1, k2, k3⟩ | ⟨k1, k2, k3, k4⟩ | ⟨k1, k2, k3, k4⟩
    · exact absurd h1 k1
    · exact absurd h2 k2
    · omega
    · rw [h4] at hf ⊢
      rw [k4]
      simp only at hf ⊢
      refine ⟨⟨fun h => ?_, fun h => ?_⟩, fun _ => by first | trivial | rfl⟩
      · rcases hf.1 h with h | h
        · exact .inl h
        · exact .inr (.inl h)
      · rcases h with h | h | h
        · exact hf.2 (.inl h)
        · exact hf.2 (.inr h)
        · omega
set_option maxHeartbeats 4000000 in
set_option maxRecDepth 100000 in
set_option linter.unusedSimpArgs false in
theorem g_rparse (H : Hp) (p : Option Addr) (n c : Nat) (L : List UInt8) (hb : BS H (.slice p n c) L) (hn : n ≤ 35184372088832) : GCalls Try.prog 40 [.slice p n c] [] H fun v H' => v = (match parO L with | none => .tuple #[recT 0 0 0 0 0 [] 0 0 0, .bool false] | some r => .tuple #[r.valT, .bool true]) ∧ HExt [] H H' := by
  match L, hb with
  | [], hb => exact g_rpar0 H p n c hb
  | k :: M, hb =>
    by_cases k1 : k.toNat = 1
    · obtain rfl : k = 1 := UInt8.toNat_inj.1 k1
      refine (g_rpar1 H p n c M hb hn _ _ rfl rfl).mono fun v H' ⟨h, x⟩ => ⟨?_, x⟩
      rw [h]
      have hp : parO (1 :: M) = if ((RdS.number ⟨M, 0⟩ 1099511627776).2.number 1099511627776).2.fin ≠ 0 then none else some ⟨1, (RdS.number ⟨M, 0⟩ 1099511627776).1, ((RdS.number ⟨M, 0⟩ 1099511627776).2.number 1099511627776).1, 0, 0, [], 0, 0, 0⟩ := by
        rw [parO, if_pos (show (1 : UInt8).toNat = 1 from rfl)]
        rfl
      rw [hp]
      generalize RdS.number ⟨M, 0⟩ 1099511627776 = r1
      generalize r1.2.number 1099511627776 = r2
      have hf := fin_ne2 r2.2
      by_cases he : r2.2.e ≠ 0 ∨ 0 < r2.2.l.length
      · rw [if_pos he, if_pos (hf.2 he)]
      · rw [if_neg he, if_neg (fun h => he (hf.1 h))]
        rfl
    · by_cases k2 : k.toNat = 2
      · obtain rfl : k = 2 := UInt8.toNat_inj.1 k2
        have hp : parO (2 :: M) = if (next M).2.2 ≠ 0 ∨ 256 ≤ (next M).1 then none else if dataOk (next M).1 (M.drop (next M).2.1).length then some ⟨2, 0, 0, (next M).1, (((next M).1 + (M.drop (next M).2.1).length / 32 : Nat) : Int), M.drop (next M).2.1, 0, 0, 0⟩ else none := by
          rw [parO, if_neg (by decide), if_pos (show (2 : UInt8).toNat = 2 from rfl)]
          rfl
        rw [hp]
        have hc := number_cases ⟨M, 0⟩ 255
        generalize hr : RdS.number ⟨M, 0⟩ 255 = r1 at hc
        simp only [ne_eq, not_true_eq_false, false_and, false_or, true_and] at hc
        have hle : r1.2.l.length ≤ M.length := by
          rcases hc with ⟨_, rfl⟩ | ⟨_, _, rfl⟩ | ⟨_, _, rfl⟩
          · exact Nat.le_refl _
          · exact Nat.le_refl _
          · simp
        refine (g_rpar2 H p n c M hb hn r1 hr hle).mono fun v H' ⟨h, x⟩ => ⟨?_, x⟩
        rw [h]
        rcases hc with ⟨h1, rfl⟩ | ⟨h1, h2, rfl⟩ | ⟨h1, h2, rfl⟩
        · rw [if_pos (.inl h1), if_pos (.inl h1)]
        · rw [if_pos (.inl (by simp)), if_pos (.inr (by omega))]
        · by_cases hd : dataOk (next M).1 (M.drop (next M).2.1).length
          · rw [if_neg (by intro h; rcases h with h | h; exact h rfl; exact h hd), if_neg (by omega), if_pos hd]
            rfl
          · rw [if_pos (.inr hd), if_neg (by omega), if_neg hd]
      · by_cases k3 : k.toNat = 3
        · obtain rfl : k = 3 := UInt8.toNat_inj.1 k3
          refine (g_rpar3 H p n c M hb hn _ _ rfl rfl).mono fun v H' ⟨h, x⟩ => ⟨?_, x⟩
          rw [h]
          have hp : parO (3 :: M) = if (((RdS.number ⟨M, 0⟩ 255).2.number 256).2.e = 0 ∧ ((RdS.number ⟨M, 0⟩ 255).2.number 256).1 ≤ (RdS.number ⟨M, 0⟩ 255).1) ∨ ((RdS.number ⟨M, 0⟩ 255).2.number 256).2.fin ≠ 0 then none else some ⟨3, 0, 0, (RdS.number ⟨M, 0⟩ 255).1, ((RdS.number ⟨M, 0⟩ 255).2.number 256).1, [], 0, 0, 0⟩ := by
            rw [parO, if_neg (by decide), if_neg (by decide), if_pos (show (3 : UInt8).toNat = 3 from rfl)]
          rw [hp]
          generalize RdS.number ⟨M, 0⟩ 255 = r1
          generalize r1.2.number 256 = r2
          have hf := fin_ne2 r2.2
          by_cases he : r2.2.e ≠ 0 ∨ 0 < r2.2.l.length ∨ r2.1 ≤ r1.1
          · rw [if_pos he, if_pos]
            by_cases h0 : r2.2.e = 0
            · rcases he with h | h | h
              · exact absurd h0 h
              · exact .inr (hf.2 (.inr h))
              · exact .inl ⟨h0, h⟩
            · exact .inr (hf.2 (.inl h0))
          · rw [if_neg he, if_neg]
            · rfl
            · rintro (⟨h1, h2⟩ | h)
              · exact he (.inr (.inr h2))
              · rcases hf.1 h with h | h
                · exact he (.inl h)
                · exact he (.inr (.inl h))
        · by_cases k4 : k.toNat = 4
          · obtain rfl : k = 4 := UInt8.toNat_inj.1 k4
            refine (g_rpar4 H p n c M hb hn _ _ _ rfl rfl rfl).mono fun v H' ⟨h, x⟩ => ⟨?_, x⟩
            rw [h]
            have hp : parO (4 :: M) = if (((RdS.number ⟨M, 0⟩ 1099511627776).2.number 1099511627776).2.number 2305843009213693950).2.fin ≠ 0 then none else some ⟨4, 0, 0, 0, 0, [], (RdS.number ⟨M, 0⟩ 1099511627776).1, ((RdS.number ⟨M, 0⟩ 1099511627776).2.number 1099511627776).1, (((RdS.number ⟨M, 0⟩ 1099511627776).2.number 1099511627776).2.number 2305843009213693950).1⟩ := by
              rw [parO, if_neg (by decide), if_neg (by decide), if_neg (by decide), if_pos (show (4 : UInt8).toNat = 4 from rfl)]
              rfl
            rw [hp]
            generalize RdS.number ⟨M, 0⟩ 1099511627776 = r1
            generalize r1.2.number 1099511627776 = r2
            have hm := number_most r2.2 2305843009213693950 18446744073709551615 (by omega)
            generalize r2.2.number 2305843009213693950 = r3 at hm
            generalize r2.2.number 18446744073709551615 = r4 at hm
            by_cases he : r4.2.e ≠ 0 ∨ 0 < r4.2.l.length ∨ 2305843009213693951 ≤ r4.1
            · rw [if_pos he, if_pos (hm.1.2 he)]
            · rw [if_neg he, if_neg (fun h => he (hm.1.1 h)), hm.2 (Classical.byContradiction fun h => he (hm.1.1 h))]
              rfl
          · refine (g_rpar5 H p n c k M hb hn (by omega)).mono fun v H' ⟨h, x⟩ => ⟨?_, x⟩
            rw [h, parO, if_neg k1, if_neg k2, if_neg k3, if_neg k4]
theorem openL_some {B D : List UInt8} (h : openL B = some D) : 4 ≤ B.length ∧ D = B.take (B.length - 4) ∧ sealL D = B := by
  unfold openL at h
  split at h
  · rename_i hc
    injection h with h
    subst h
    exact ⟨hc.1, rfl, hc.2⟩
  · cases h
theorem openL_none {B : List UInt8} (h : openL B = none) (h4 : 4 ≤ B.length) : sealL (B.take (B.length - 4)) ≠ B := fun e => by
  unfold openL at h
  rw [if_pos ⟨h4, e⟩] at h
  cases h
end Go.Proofs.Ytjlimdiimdihfaa

/- Records out of bytes: the document's, out of a reader. -/
namespace Go.Proofs.Ytjlimdiimdihfaa
open Go.RowKit

/-- Bytes, their place laid open. -/
theorem bs_open {H : Hp} {p : Option Addr} {n c : Nat} {L : List UInt8} (h : BS H (.slice p n c) L) (h0 : 0 < L.length) : ∃ j off t rw cs, p = some ⟨j, off, none⟩ ∧ H.at j = some ⟨t, 1, cs, rw⟩ ∧ (cs.drop off).take L.length = vb L ∧ n = L.length ∧ off + L.length ≤ cs.length ∧ allU8 cs = true := by
  cases h with
  | none => simp at h0
  | some hb hs hl ho hu =>
    subst hl
    exact ⟨_, _, _, _, _, rfl, hb, hs, rfl, ho, hu⟩
set_option maxHeartbeats 4000000 in
set_option maxRecDepth 100000 in
set_option linter.unusedSimpArgs false in
theorem g_rrread (H : Hp) (g : Nat) (p : Option Addr) (c : Nat) (s : RdS) (h : RG 61 H g p c s) : GCalls Try.prog 20 [.pointer (some ⟨g, 0, none⟩)] [g] H fun v H' => v = (match rdrO s with | .inl e => .tuple #[recT 0 0 0 0 0 [] 0 0 0, .int .i64 (e : Int)] | .inr r => .tuple #[r.valT, .int .i64 0]) ∧ (∃ p' c', RG 61 H' g p' c' (s.bytes 200).2) ∧ BSk H H' ∧ HExt [g] H H' := by
  have hlt := Hp.at_lt h.hg
  have hle := bytes_len s 200
  have hB := fun H p c (h : RG 61 H g p c s) => g_rbytes H g p c s 200 (by omega) h
  unfold rdrO
  generalize hq : s.bytes 200 = q at hB hle
  clear hq
  obtain ⟨B, s2⟩ := q
  simp only at hle hB ⊢
  by_cases he : s2.e ≠ 0
  · rw [if_pos he]
    clear hle
    refine GCalls.body tab_is Try.func20 rfl Try.results20 Try.ntmps20 (by simp) ?_ ?_
    · first | (intro _ h; cases h; done) | (simp; done) | (simp; omega) | (intro i hi; simp at hi; rcases hi with rfl | rfl <;> omega) | (intro i hi; simp at hi; rcases hi with rfl | rfl | rfl <;> omega)
    focus
      refine GWP.seq ?_
      refine GWP.region ?_
      focus
        refine GOps.w1 rfl rfl rfl rfl (gop_alloc' (id := ?_) ?_ tab_is rfl rfl ?_) ?_
        rotate_left 1
        · rfl
        · decide
      refine GOps.r rfl rfl rfl rfl (grd_assign rfl rfl) ?_
      refine GOps.nil ?_
      refine GWP.seq ?_
      refine GWP.region ?_
      refine GOps.r rfl rfl rfl rfl (grd_move rfl rfl) ?_
      focus
        refine GOps.w rfl rfl rfl rfl (gop_call rfl Try.call39 rfl ?_ (hB _ ?_ ?_ ?_)) ?_
        · simp [Ctx.may]; done
        rotate_left 2
        refine rg_ext (by assumption) ?_
        refine HExt.push ?_
        · exact HExt.refl _ _
      rintro _ Hxa9 ⟨⟨pa1, na2, ca3, rfl, ba4⟩, ⟨pa5, ca6, ra7⟩, ka8, xa9⟩
      have xa9l := HExt.len xa9; try simp at xa9l
      have ra7g := RG.hg ra7; unfold rdBlk at ra7g; have ra7q := Hp.at_lt ra7g
      refine GOps.r rfl rfl rfl rfl (grd_assign rfl rfl) ?_
      refine GOps.nil ?_
      refine GWP.seq ?_
      refine GWP.seq ?_
      refine GWP.region ?_
      refine GOps.r rfl rfl rfl rfl (grd_move rfl rfl) ?_
      refine GOps.r rfl rfl rfl rfl (grd_nil rfl rfl) ?_
      refine GOps.r rfl rfl rfl rfl (grd_fieldAddr tab_is rfl rfl rfl rfl rfl) ?_
      focus
        refine GOps.r rfl rfl rfl rfl (grd_load1 (b := ?_) (v := ?_) tab_is rfl rfl rfl rfl ?_ ?_) ?_
        rotate_left 2
        · assumption
        · rfl
      refine GOps.r rfl rfl rfl rfl (grd_neq rfl rfl rfl) ?_
      refine GOps.nil ?_
      refine GWP.cond_t rfl ?_ ?_
      · exact decide_eq_true (by omega)
      refine GWP.seq ?_
      refine GWP.draw [.reads [0, 1, 2, 3, 4], .write 5, .reads [6]] false [g] (by kernel_rfl) (by kernel_rfl) (by kernel_rfl) (by kernel_rfl) ?_ ?_
      · simp; omega
      refine GPcs.reads (by simp only [List.filterMap_cons, List.filterMap_nil, List.getElem?_toArray, List.getElem?_cons_succ, List.getElem?_cons_zero]; rfl) ?_
      focus
        refine GQ.r rfl rfl rfl rfl (grd_build (cs := ?_) tab_is rfl rfl rfl ?_ rfl ?_) ?_ ?_
        rotate_left 1
        · decide
        · simp [gfill, gsets, Value.cells]; rfl
        · refine .inr ?_; simp
      refine GQ.r rfl rfl rfl rfl (grd_move rfl rfl) ?_ ?_
      · refine .inr ?_; simp
      refine GQ.r rfl rfl rfl rfl (grd_nil rfl rfl) ?_ ?_
      · refine .inr ?_; simp
      refine GQ.r rfl rfl rfl rfl (grd_fieldAddr tab_is rfl rfl rfl rfl rfl) ?_ ?_
      · refine .inr ?_; simp
      focus
        refine GQ.r rfl rfl rfl rfl (grd_load1 (b := ?_) (v := ?_) tab_is rfl rfl rfl rfl ?_ ?_) ?_ ?_
        rotate_left 2
        · assumption
        · rfl
        · refine .inr ?_; simp
      refine GQ.nil ?_
      focus
        refine GPcs.sto (j := List.length H) true [g] rfl rfl ?_ rfl (gop_storeC (b := ?_) (cs := ?_) tab_is rfl rfl ?_ rfl rfl ?_ ?_ ?_ ?_ ?_ ?_) rfl ?_ ?_ ?_ ?_ ?_ ?_
        · with_reducible rfl
        rotate_left 2
        · rfl
        · rfl
        refine (HExt.eq (by assumption) _ ?_ ?_).trans ?_
        · simp; done
        · simp; omega
        · exact Hp.at_push_eq
        · rfl
        · decide
        · exact .inl (by simp)
        · simp [splice, Value.cells]; rfl
        focus
          refine List.forall_mem_cons.2 ⟨⟨?_, ?_, ?_⟩, ?_⟩
          rotate_left 1
          refine (HExt.eq (by assumption) _ ?_ ?_).trans ?_
          · simp; done
          · simp; omega
          · exact Hp.at_push_eq
          · rfl
          · intro _ h; cases h; done
        · exact .inr (by simp)
        focus
          refine List.forall_mem_cons.2 ⟨⟨⟨?_, ?_⟩, ?_⟩, ?_⟩
          rotate_left 1
          · assumption
          · simp; omega
          · intro _ h; cases h; done
        · simp; done
        · simp; omega
      refine GPcs.reads (by simp only [List.filterMap_cons, List.filterMap_nil, List.getElem?_toArray, List.getElem?_cons_succ, List.getElem?_cons_zero]; rfl) ?_
      refine GQ.r rfl rfl rfl rfl (grd_assign rfl rfl) ?_ ?_
      · exact .inl rfl
      refine GQ.nil ?_
      refine GPcs.nil ?_
      refine GWP.ret ?_
      focus
        refine ⟨_, (.two (gres_cellNK (b := ?_) (cs := ?_) rfl rfl rfl ?_ ?_ ?_) (.one rfl)), ?_⟩
        rotate_left 2
        refine Hp.at_put_eq ?_
        · omega
        · decide
        · simp [Value.cells]; rfl
      refine ⟨?_, ?_⟩
      · rfl
      refine ⟨?_, ?_⟩
      focus
        refine ⟨?_, ?_, ?_⟩
        rotate_left 2
        focus
          refine rg_ne (b := ?_) ?_ ?_ ?_ ?_
          rotate_left 1
          focus
            · assumption
          refine (HExt.eq (by assumption) _ ?_ ?_).trans ?_
          · simp; done
          · simp; omega
          · exact Hp.at_push_eq
          · omega
          · rfl
      refine ⟨?_, ?_⟩
      focus
        refine bsk_low ?_ ?_
        focus
          refine BSk.trans ?_ (by assumption)
          refine bsk_push ?_
          · exact BSk.refl _
        · omega
      refine HExt.put ?_ ?_
      refine HExt.tr ?_ (by assumption) ?_
      refine HExt.push ?_
      · exact HExt.refl _ _
      · simp; done
      · exact .inr (by omega)
  · rw [if_neg he]
    by_cases h4 : B.length < 4
    · have ho : openL B = none := open_none (by omega)
      rw [ho]
      clear hle ho
      refine GCalls.body tab_is Try.func20 rfl Try.results20 Try.ntmps20 (by simp) ?_ ?_
      · first | (intro _ h; cases h; done) | (simp; done) | (simp; omega) | (intro i hi; simp at hi; rcases hi with rfl | rfl <;> omega) | (intro i hi; simp at hi; rcases hi with rfl | rfl | rfl <;> omega)
      focus
        refine GWP.seq ?_
        refine GWP.region ?_
        focus
          refine GOps.w1 rfl rfl rfl rfl (gop_alloc' (id := ?_) ?_ tab_is rfl rfl ?_) ?_
          rotate_left 1
          · rfl
          · decide
        refine GOps.r rfl rfl rfl rfl (grd_assign rfl rfl) ?_
        refine GOps.nil ?_
        refine GWP.seq ?_
        refine GWP.region ?_
        refine GOps.r rfl rfl rfl rfl (grd_move rfl rfl) ?_
        focus
          refine GOps.w rfl rfl rfl rfl (gop_call rfl Try.call39 rfl ?_ (hB _ ?_ ?_ ?_)) ?_
          · simp [Ctx.may]; done
          rotate_left 2
          refine rg_ext (by assumption) ?_
          refine HExt.push ?_
          · exact HExt.refl _ _
        rintro _ Hxb9 ⟨⟨pb1, nb2, cb3, rfl, bb4⟩, ⟨pb5, cb6, rb7⟩, kb8, xb9⟩
        have xb9l := HExt.len xb9; try simp at xb9l
        have rb7g := RG.hg rb7; unfold rdBlk at rb7g; have rb7q := Hp.at_lt rb7g
        have bb4n := BS.len bb4; subst bb4n
        refine GOps.r rfl rfl rfl rfl (grd_assign rfl rfl) ?_
        refine GOps.nil ?_
        refine GWP.seq ?_
        refine GWP.seq ?_
        refine GWP.region ?_
        refine GOps.r rfl rfl rfl rfl (grd_move rfl rfl) ?_
        refine GOps.r rfl rfl rfl rfl (grd_nil rfl rfl) ?_
        refine GOps.r rfl rfl rfl rfl (grd_fieldAddr tab_is rfl rfl rfl rfl rfl) ?_
        focus
          refine GOps.r rfl rfl rfl rfl (grd_load1 (b := ?_) (v := ?_) tab_is rfl rfl rfl rfl ?_ ?_) ?_
          rotate_left 2
          · assumption
          · rfl
        refine GOps.r rfl rfl rfl rfl (grd_neq rfl rfl rfl) ?_
        refine GOps.nil ?_
        refine GWP.cond_f rfl ?_ ?_
        · exact decide_eq_false (by omega)
        refine GWP.skip ?_
        refine GWP.seq ?_
        refine GWP.seq ?_
        refine GWP.draw [.reads [0, 1, 2, 3, 4, 5, 11, 6, 12, 7, 8], .write 9, .reads [10, 13, 14]] false [] (by kernel_rfl) (by kernel_rfl) (by kernel_rfl) (by kernel_rfl) ?_ ?_
        · intro _ h; cases h; done
        refine GPcs.reads (by simp only [List.filterMap_cons, List.filterMap_nil, List.getElem?_toArray, List.getElem?_cons_succ, List.getElem?_cons_zero]; rfl) ?_
        refine GQ.r rfl rfl rfl rfl (grd_move rfl rfl) ?_ ?_
        · refine .inr ?_; simp
        refine GQ.r rfl rfl rfl rfl (grd_len tab_is rfl rfl rfl rfl rfl) ?_ ?_
        · refine .inr ?_; simp
        refine GQ.r rfl rfl rfl rfl (grd_lss rfl rfl rfl) ?_ ?_
        · refine .inr ?_; simp
        refine GQ.r rfl rfl rfl rfl (grd_move rfl rfl) ?_ ?_
        · refine .inr ?_; simp
        refine GQ.no rfl ?_ rfl rfl ?_
        · simp; omega
        refine GQ.no rfl ?_ rfl rfl ?_
        · simp; omega
        refine GQ.no rfl ?_ rfl rfl ?_
        · simp; omega
        refine GQ.no rfl ?_ rfl rfl ?_
        · simp; omega
        refine GQ.no rfl ?_ rfl rfl ?_
        · simp; omega
        refine GQ.no rfl ?_ rfl rfl ?_
        · simp; omega
        refine GQ.no rfl ?_ rfl rfl ?_
        · simp; omega
        refine GQ.nil ?_
        refine GPcs.no rfl rfl ?_ rfl rfl ?_
        · simp; omega
        refine GPcs.reads (by simp only [List.filterMap_cons, List.filterMap_nil, List.getElem?_toArray, List.getElem?_cons_succ, List.getElem?_cons_zero]; rfl) ?_
        refine GQ.no rfl ?_ rfl rfl ?_
        · simp; omega
        refine GQ.no rfl ?_ rfl rfl ?_
        · simp; omega
        refine GQ.r rfl rfl rfl rfl (grd_pick_t rfl rfl ?_ rfl) ?_ ?_
        · exact decide_eq_true (by omega)
        · refine .inr ?_; simp
        refine GQ.nil ?_
        refine GPcs.nil ?_
        refine GWP.cond_t rfl ?_ ?_
        · with_reducible rfl
        refine GWP.seq ?_
        refine GWP.region ?_
        focus
          refine GOps.r rfl rfl rfl rfl (grd_build (cs := ?_) tab_is rfl rfl rfl ?_ rfl ?_) ?_
          rotate_left 1
          · decide
          · simp [gfill, gsets, Value.cells]; rfl
        focus
          refine GOps.s rfl rfl rfl (gop_storeC (b := ?_) (cs := ?_) tab_is rfl rfl ?_ rfl rfl ?_ ?_ ?_ ?_ ?_ ?_) ?_
          rotate_left 2
          · rfl
          · rfl
          refine (HExt.eq (by assumption) _ ?_ ?_).trans ?_
          · simp; done
          · simp; omega
          · exact Hp.at_push_eq
          · rfl
          · decide
          · exact .inr (by simp)
          · simp [splice, Value.cells]; rfl
        refine GOps.r rfl rfl rfl rfl (grd_assign rfl rfl) ?_
        refine GOps.nil ?_
        refine GWP.ret ?_
        focus
          refine ⟨_, (.two (gres_cellNK (b := ?_) (cs := ?_) rfl rfl rfl ?_ ?_ ?_) (.one rfl)), ?_⟩
          rotate_left 2
          refine Hp.at_put_eq ?_
          · omega
          · decide
          · simp [Value.cells]; rfl
        refine ⟨?_, ?_⟩
        · rfl
        refine ⟨?_, ?_⟩
        focus
          refine ⟨?_, ?_, ?_⟩
          rotate_left 2
          focus
            refine rg_ne (b := ?_) ?_ ?_ ?_ ?_
            rotate_left 1
            focus
              · assumption
            refine (HExt.eq (by assumption) _ ?_ ?_).trans ?_
            · simp; done
            · simp; omega
            · exact Hp.at_push_eq
            · omega
            · rfl
        refine ⟨?_, ?_⟩
        focus
          refine bsk_low ?_ ?_
          focus
            refine BSk.trans ?_ (by assumption)
            refine bsk_push ?_
            · exact BSk.refl _
          · omega
        refine HExt.put ?_ ?_
        refine HExt.tr ?_ (by assumption) ?_
        refine HExt.push ?_
        · exact HExt.refl _ _
        · simp; done
        · exact .inr (by omega)
    · have hB4 := fun H p c (h : RG 61 H g p c s) => (hB H p c h).mono (R' := fun v H' => (∃ j off c' t rw cs, v = .slice (some ⟨j, off, none⟩) B.length c' ∧ H'.at j = some ⟨t, 1, cs, rw⟩ ∧ (cs.drop off).take B.length = vb B ∧ off + B.length ≤ cs.length ∧ BS H' (.slice (some ⟨j, off, none⟩) B.length c') B) ∧ (∃ p' c', RG 61 H' g p' c' s2) ∧ BSk H H' ∧ HExt [g] H H') fun v H' ⟨⟨p', n', c', e, b⟩, x⟩ => by
        obtain ⟨j, off, t, rw, cs, rfl, h1, h2, rfl, h3, h4⟩ := bs_open b (by omega)
        exact ⟨⟨j, off, c', t, rw, cs, e, h1, h2, h3, b⟩, x⟩
      clear hB
      cases ho : openL B with
      | none =>
        have hne0 := openL_none ho (by omega)
        have hne : sealL (List.take ((B.length : Int) - 4).toNat (List.drop 0 B)) ≠ B := by rw [show ((B.length : Int) - 4).toNat = B.length - 4 by omega]; exact hne0
        clear hne0
        clear ho
        refine GCalls.body tab_is Try.func20 rfl Try.results20 Try.ntmps20 (by simp) ?_ ?_
        · first | (intro _ h; cases h; done) | (simp; done) | (simp; omega) | (intro i hi; simp at hi; rcases hi with rfl | rfl <;> omega) | (intro i hi; simp at hi; rcases hi with rfl | rfl | rfl <;> omega)
        focus
          refine GWP.seq ?_
          refine GWP.region ?_
          focus
            refine GOps.w1 rfl rfl rfl rfl (gop_alloc' (id := ?_) ?_ tab_is rfl rfl ?_) ?_
            rotate_left 1
            · rfl
            · decide
          refine GOps.r rfl rfl rfl rfl (grd_assign rfl rfl) ?_
          refine GOps.nil ?_
          refine GWP.seq ?_
          refine GWP.region ?_
          refine GOps.r rfl rfl rfl rfl (grd_move rfl rfl) ?_
          focus
            refine GOps.w rfl rfl rfl rfl (gop_call rfl Try.call39 rfl ?_ (hB4 _ ?_ ?_ ?_)) ?_
            · simp [Ctx.may]; done
            rotate_left 2
            refine rg_ext (by assumption) ?_
            refine HExt.push ?_
            · exact HExt.refl _ _
          rintro _ Hxd15 ⟨⟨jd1, od2, cd3, td4, wd5, csd6, rfl, hbd7, hsd8, hod9, bd10⟩, ⟨pd11, cd12, rd13⟩, kd14, xd15⟩
          have xd15l := HExt.len xd15; try simp at xd15l
          have hbd7q := Hp.at_lt hbd7
          have rd13g := RG.hg rd13; unfold rdBlk at rd13g; have rd13q := Hp.at_lt rd13g
          refine GOps.r rfl rfl rfl rfl (grd_assign rfl rfl) ?_
          refine GOps.nil ?_
          refine GWP.seq ?_
          refine GWP.seq ?_
          refine GWP.region ?_
          refine GOps.r rfl rfl rfl rfl (grd_move rfl rfl) ?_
          refine GOps.r rfl rfl rfl rfl (grd_nil rfl rfl) ?_
          refine GOps.r rfl rfl rfl rfl (grd_fieldAddr tab_is rfl rfl rfl rfl rfl) ?_
          focus
            refine GOps.r rfl rfl rfl rfl (grd_load1 (b := ?_) (v := ?_) tab_is rfl rfl rfl rfl ?_ ?_) ?_
            rotate_left 2
            · assumption
            · rfl
          refine GOps.r rfl rfl rfl rfl (grd_neq rfl rfl rfl) ?_
          refine GOps.nil ?_
          refine GWP.cond_f rfl ?_ ?_
          · exact decide_eq_false (by omega)
          refine GWP.skip ?_
          refine GWP.seq ?_
          refine GWP.seq ?_
          refine GWP.draw [.reads [0, 1, 2, 3, 4, 5, 11, 6, 12, 7, 8], .write 9, .reads [10, 13, 14]] false [jd1] (by kernel_rfl) (by kernel_rfl) (by kernel_rfl) (by kernel_rfl) ?_ ?_
          · simp; omega
          refine GPcs.reads (by simp only [List.filterMap_cons, List.filterMap_nil, List.getElem?_toArray, List.getElem?_cons_succ, List.getElem?_cons_zero]; rfl) ?_
          refine GQ.r rfl rfl rfl rfl (grd_move rfl rfl) ?_ ?_
          · refine .inr ?_; simp
          refine GQ.r rfl rfl rfl rfl (grd_len tab_is rfl rfl rfl rfl rfl) ?_ ?_
          · refine .inr ?_; simp
          refine GQ.r rfl rfl rfl rfl (grd_lss rfl rfl rfl) ?_ ?_
          · refine .inr ?_; simp
          refine GQ.r rfl rfl rfl rfl (grd_move rfl rfl) ?_ ?_
          · refine .inr ?_; simp
          refine GQ.take rfl rfl ?_ ?_
          · simp; omega
          refine GQ.r rfl rfl rfl rfl (grd_move rfl rfl) ?_ ?_
          · refine .inr ?_; simp
          refine GQ.take rfl rfl ?_ ?_
          · simp; omega
          refine GQ.r rfl rfl rfl rfl (grd_move rfl rfl) ?_ ?_
          · refine .inr ?_; simp
          refine GQ.take rfl rfl ?_ ?_
          · simp; omega
          refine GQ.r rfl rfl rfl rfl (grd_move rfl rfl) ?_ ?_
          · refine .inr ?_; simp
          refine GQ.take rfl rfl ?_ ?_
          · simp; omega
          refine GQ.r rfl rfl rfl rfl (grd_len tab_is rfl rfl rfl rfl rfl) ?_ ?_
          · refine .inr ?_; simp
          refine GQ.take rfl rfl ?_ ?_
          · simp; omega
          focus
            refine GQ.r rfl rfl rfl rfl (grd_str (b := ?_) (l := ?_) tab_is rfl rfl rfl rfl rfl rfl rfl rfl ?_ ?_ ?_) ?_ ?_
            rotate_left 2
            · assumption
            · assumption
            · rfl
            · refine .inr ?_; simp
          refine GQ.take rfl rfl ?_ ?_
          · simp; omega
          refine GQ.r rfl rfl rfl rfl (grd_sub64 rfl rfl rfl ?_) ?_ ?_
          · omega
          · refine .inr ?_; simp
          refine GQ.take rfl rfl ?_ ?_
          · simp; omega
          focus
            refine GQ.r rfl rfl rfl rfl (grd_slL (l := ?_) (h := ?_) (o2 := ?_) (m2 := ?_) (b := ?_) tab_is rfl rfl rfl rfl ?_ ?_ ?_ ?_ ?_ ?_ ?_ ?_) ?_ ?_
            rotate_left 5
            · assumption
            · rfl
            · exact rfl
            · refine gbound_tmp rfl ?_; refine Eq.trans (Int.toNat_of_nonneg ?_).symm ?_; rotate_left 1; rfl; omega
            · omega
            · omega
            · simp; rfl
            · simp; rfl
            · refine .inr ?_; simp
          refine GQ.nil ?_
          focus
            refine GPcs.write true [jd1] rfl rfl ?_ rfl rfl (gopf_call rfl Try.call38 rfl ?_ (g_rseal2 _ _ _ _ ?_ ?_ ?_)) rfl ?_ ?_ ?_ ?_
            · simp; omega
            · intro _ h; cases h; done
            rotate_left 1
            focus
              · refine bs_subE (l := 0) (by assumption) rfl (by omega) ?_; rfl
            · omega
            · intro _ h; cases h; done
            focus
              refine List.forall_mem_cons.2 ⟨⟨⟨?_, ?_⟩, ?_⟩, ?_⟩
              rotate_left 1
              · assumption
              · intro h; cases h; done
              · intro _ h; cases h; done
            · simp; done
          rintro _ Hxd19 ⟨pd16, cd17, rfl, sd18, xd19⟩
          have xd19l := HExt.len xd19; try simp at xd19l
          refine ⟨?_, ?_⟩
          · simp; omega
          refine GPcs.reads (by simp only [List.filterMap_cons, List.filterMap_nil, List.getElem?_toArray, List.getElem?_cons_succ, List.getElem?_cons_zero]; rfl) ?_
          refine GQ.take rfl rfl ?_ ?_
          · simp; omega
          focus
            refine GQ.re rfl rfl rfl rfl (grd_strBS (L := ?_) tab_is rfl rfl rfl rfl rfl rfl rfl rfl ?_) rfl ?_
            rotate_left 1
            · assumption
          refine GQ.take rfl rfl ?_ ?_
          · simp; omega
          refine GQ.r rfl rfl rfl rfl (grd_sneq' rfl rfl rfl) ?_ ?_
          · exact .inl rfl
          refine GQ.r rfl rfl rfl rfl (grd_pick_f rfl rfl ?_ rfl) ?_ ?_
          · exact decide_eq_false (by omega)
          · exact .inl rfl
          refine GQ.nil ?_
          refine GPcs.nil ?_
          refine GWP.cond_t rfl ?_ ?_
          · exact decide_eq_true (by assumption)
          refine GWP.seq ?_
          refine GWP.region ?_
          focus
            refine GOps.r rfl rfl rfl rfl (grd_build (cs := ?_) tab_is rfl rfl rfl ?_ rfl ?_) ?_
            rotate_left 1
            · decide
            · simp [gfill, gsets, Value.cells]; rfl
          focus
            refine GOps.s rfl rfl rfl (gop_storeC (b := ?_) (cs := ?_) tab_is rfl rfl ?_ rfl rfl ?_ ?_ ?_ ?_ ?_ ?_) ?_
            rotate_left 2
            · rfl
            · rfl
            refine (HExt.eq (by assumption) _ ?_ ?_).trans ?_
            · omega
            · intro h; cases h; done
            refine (HExt.eq (by assumption) _ ?_ ?_).trans ?_
            · simp; done
            · simp; omega
            · exact Hp.at_push_eq
            · rfl
            · decide
            · exact .inr (by simp)
            · simp [splice, Value.cells]; rfl
          refine GOps.r rfl rfl rfl rfl (grd_assign rfl rfl) ?_
          refine GOps.nil ?_
          refine GWP.ret ?_
          focus
            refine ⟨_, (.two (gres_cellNK (b := ?_) (cs := ?_) rfl rfl rfl ?_ ?_ ?_) (.one rfl)), ?_⟩
            rotate_left 2
            refine Hp.at_put_eq ?_
            · omega
            · decide
            · simp [Value.cells]; rfl
          refine ⟨?_, ?_⟩
          · rfl
          refine ⟨?_, ?_⟩
          focus
            refine ⟨?_, ?_, ?_⟩
            rotate_left 2
            focus
              refine rg_ne (b := ?_) ?_ ?_ ?_ ?_
              rotate_left 1
              focus
                refine rg_ext (by assumption) ?_
                · assumption
              refine (HExt.eq (by assumption) _ ?_ ?_).trans ?_
              · omega
              · intro h; cases h; done
              refine (HExt.eq (by assumption) _ ?_ ?_).trans ?_
              · simp; done
              · simp; omega
              · exact Hp.at_push_eq
              · omega
              · rfl
          refine ⟨?_, ?_⟩
          focus
            refine bsk_low ?_ ?_
            focus
              refine bsk_tail ?_ (by assumption)
              refine BSk.trans ?_ (by assumption)
              refine bsk_push ?_
              · exact BSk.refl _
            · omega
          refine HExt.put ?_ ?_
          refine HExt.tr ?_ (by assumption) ?_
          refine HExt.tr ?_ (by assumption) ?_
          refine HExt.push ?_
          · exact HExt.refl _ _
          · simp; done
          · intro _ h; cases h; done
          · exact .inr (by omega)
      | some D =>
        obtain ⟨_, hD, hse0⟩ := openL_some ho
        have hDl : D.length = B.length - 4 := by rw [hD, List.length_take]; omega
        have hse : ¬ sealL (List.take (B.length - 4) (List.drop 0 B)) ≠ B := fun k => k (by rw [List.drop_zero, ← hD]; exact hse0)
        have hD2 : List.take (B.length - 4) B = D := hD.symm
        have hP : ∀ H p n c L, BS H (.slice p n c) L → n ≤ 35184372088832 → L = D → GCalls Try.prog 40 [.slice p n c] [] H fun v H' => v = (match parO D with | none => .tuple #[recT 0 0 0 0 0 [] 0 0 0, .bool false] | some r => .tuple #[r.valT, .bool true]) ∧ HExt [] H H' := fun H p n c L hb hn e => by
          subst e
          exact g_rparse H p n c L hb hn
        simp only [RecS.valT, recT] at hP ⊢
        clear ho hse0 hD
        cases hp : parO D with
        | none =>
          rw [hp] at hP
          simp only at hP ⊢
          refine GCalls.body tab_is Try.func20 rfl Try.results20 Try.ntmps20 (by simp) ?_ ?_
          · first | (intro _ h; cases h; done) | (simp; done) | (simp; omega) | (intro i hi; simp at hi; rcases hi with rfl | rfl <;> omega) | (intro i hi; simp at hi; rcases hi with rfl | rfl | rfl <;> omega)
          focus
            refine GWP.seq ?_
            refine GWP.region ?_
            focus
              refine GOps.w1 rfl rfl rfl rfl (gop_alloc' (id := ?_) ?_ tab_is rfl rfl ?_) ?_
              rotate_left 1
              · rfl
              · decide
            refine GOps.r rfl rfl rfl rfl (grd_assign rfl rfl) ?_
            refine GOps.nil ?_
            refine GWP.seq ?_
            refine GWP.region ?_
            refine GOps.r rfl rfl rfl rfl (grd_move rfl rfl) ?_
            focus
              refine GOps.w rfl rfl rfl rfl (gop_call rfl Try.call39 rfl ?_ (hB4 _ ?_ ?_ ?_)) ?_
              · simp [Ctx.may]; done
              rotate_left 2
              refine rg_ext (by assumption) ?_
              refine HExt.push ?_
              · exact HExt.refl _ _
            rintro _ Hxe15 ⟨⟨je1, oe2, ce3, te4, we5, cse6, rfl, hbe7, hse8, hoe9, be10⟩, ⟨pe11, ce12, re13⟩, ke14, xe15⟩
            have xe15l := HExt.len xe15; try simp at xe15l
            have hbe7q := Hp.at_lt hbe7
            have re13g := RG.hg re13; unfold rdBlk at re13g; have re13q := Hp.at_lt re13g
            refine GOps.r rfl rfl rfl rfl (grd_assign rfl rfl) ?_
            refine GOps.nil ?_
            refine GWP.seq ?_
            refine GWP.seq ?_
            refine GWP.region ?_
            refine GOps.r rfl rfl rfl rfl (grd_move rfl rfl) ?_
            refine GOps.r rfl rfl rfl rfl (grd_nil rfl rfl) ?_
            refine GOps.r rfl rfl rfl rfl (grd_fieldAddr tab_is rfl rfl rfl rfl rfl) ?_
            focus
              refine GOps.r rfl rfl rfl rfl (grd_load1 (b := ?_) (v := ?_) tab_is rfl rfl rfl rfl ?_ ?_) ?_
              rotate_left 2
              · assumption
              · rfl
            refine GOps.r rfl rfl rfl rfl (grd_neq rfl rfl rfl) ?_
            refine GOps.nil ?_
            refine GWP.cond_f rfl ?_ ?_
            · exact decide_eq_false (by omega)
            refine GWP.skip ?_
            refine GWP.seq ?_
            refine GWP.seq ?_
            refine GWP.draw [.reads [0, 1, 2, 3, 4, 5, 11, 6, 12, 7, 8], .write 9, .reads [10, 13, 14]] false [je1] (by kernel_rfl) (by kernel_rfl) (by kernel_rfl) (by kernel_rfl) ?_ ?_
            · simp; omega
            refine GPcs.reads (by simp only [List.filterMap_cons, List.filterMap_nil, List.getElem?_toArray, List.getElem?_cons_succ, List.getElem?_cons_zero]; rfl) ?_
            refine GQ.r rfl rfl rfl rfl (grd_move rfl rfl) ?_ ?_
            · refine .inr ?_; simp
            refine GQ.r rfl rfl rfl rfl (grd_len tab_is rfl rfl rfl rfl rfl) ?_ ?_
            · refine .inr ?_; simp
            refine GQ.r rfl rfl rfl rfl (grd_lss rfl rfl rfl) ?_ ?_
            · refine .inr ?_; simp
            refine GQ.r rfl rfl rfl rfl (grd_move rfl rfl) ?_ ?_
            · refine .inr ?_; simp
            refine GQ.take rfl rfl ?_ ?_
            · simp; omega
            refine GQ.r rfl rfl rfl rfl (grd_move rfl rfl) ?_ ?_
            · refine .inr ?_; simp
            refine GQ.take rfl rfl ?_ ?_
            · simp; omega
            refine GQ.r rfl rfl rfl rfl (grd_move rfl rfl) ?_ ?_
            · refine .inr ?_; simp
            refine GQ.take rfl rfl ?_ ?_
            · simp; omega
            refine GQ.r rfl rfl rfl rfl (grd_move rfl rfl) ?_ ?_
            · refine .inr ?_; simp
            refine GQ.take rfl rfl ?_ ?_
            · simp; omega
            refine GQ.r rfl rfl rfl rfl (grd_len tab_is rfl rfl rfl rfl rfl) ?_ ?_
            · refine .inr ?_; simp
            refine GQ.take rfl rfl ?_ ?_
            · simp; omega
            focus
              refine GQ.r rfl rfl rfl rfl (grd_str (b := ?_) (l := ?_) tab_is rfl rfl rfl rfl rfl rfl rfl rfl ?_ ?_ ?_) ?_ ?_
              rotate_left 2
              · assumption
              · assumption
              · rfl
              · refine .inr ?_; simp
            refine GQ.take rfl rfl ?_ ?_
            · simp; omega
            refine GQ.r rfl rfl rfl rfl (grd_sub64 rfl rfl rfl ?_) ?_ ?_
            · omega
            · refine .inr ?_; simp
            refine GQ.take rfl rfl ?_ ?_
            · simp; omega
            focus
              refine GQ.r rfl rfl rfl rfl (grd_slL (l := ?_) (h := ?_) (o2 := ?_) (m2 := ?_) (b := ?_) tab_is rfl rfl rfl rfl ?_ ?_ ?_ ?_ ?_ ?_ ?_ ?_) ?_ ?_
              rotate_left 5
              · assumption
              · rfl
              · exact rfl
              · refine gbound_tmp rfl ?_; refine Eq.trans (Int.ofNat_sub ?_).symm ?_; rotate_left 1; rfl; omega
              · omega
              · omega
              · simp; rfl
              · simp; rfl
              · refine .inr ?_; simp
            refine GQ.nil ?_
            focus
              refine GPcs.write true [je1] rfl rfl ?_ rfl rfl (gopf_call rfl Try.call38 rfl ?_ (g_rseal2 _ _ _ _ ?_ ?_ ?_)) rfl ?_ ?_ ?_ ?_
              · simp; omega
              · intro _ h; cases h; done
              rotate_left 1
              focus
                · refine bs_subE (l := 0) (by assumption) rfl (by omega) ?_; rfl
              · omega
              · intro _ h; cases h; done
              focus
                refine List.forall_mem_cons.2 ⟨⟨⟨?_, ?_⟩, ?_⟩, ?_⟩
                rotate_left 1
                · assumption
                · intro h; cases h; done
                · intro _ h; cases h; done
              · simp; done
            rintro _ Hxe19 ⟨pe16, ce17, rfl, se18, xe19⟩
            have xe19l := HExt.len xe19; try simp at xe19l
            refine ⟨?_, ?_⟩
            · simp; omega
            refine GPcs.reads (by simp only [List.filterMap_cons, List.filterMap_nil, List.getElem?_toArray, List.getElem?_cons_succ, List.getElem?_cons_zero]; rfl) ?_
            refine GQ.take rfl rfl ?_ ?_
            · simp; omega
            focus
              refine GQ.re rfl rfl rfl rfl (grd_strBS (L := ?_) tab_is rfl rfl rfl rfl rfl rfl rfl rfl ?_) rfl ?_
              rotate_left 1
              · assumption
            refine GQ.take rfl rfl ?_ ?_
            · simp; omega
            refine GQ.r rfl rfl rfl rfl (grd_sneq' rfl rfl rfl) ?_ ?_
            · exact .inl rfl
            refine GQ.r rfl rfl rfl rfl (grd_pick_f rfl rfl ?_ rfl) ?_ ?_
            · exact decide_eq_false (by omega)
            · exact .inl rfl
            refine GQ.nil ?_
            refine GPcs.nil ?_
            refine GWP.cond_f rfl ?_ ?_
            · exact decide_eq_false (by assumption)
            refine GWP.skip ?_
            refine GWP.seq ?_
            refine GWP.region ?_
            refine GOps.r rfl rfl rfl rfl (grd_move rfl rfl) ?_
            refine GOps.r rfl rfl rfl rfl (grd_move rfl rfl) ?_
            refine GOps.r rfl rfl rfl rfl (grd_len tab_is rfl rfl rfl rfl rfl) ?_
            refine GOps.r rfl rfl rfl rfl (grd_sub64 rfl rfl rfl ?_) ?_
            · omega
            focus
              refine GOps.r rfl rfl rfl rfl (grd_slL (l := ?_) (h := ?_) (o2 := ?_) (m2 := ?_) (b := ?_) tab_is rfl rfl rfl rfl ?_ ?_ ?_ ?_ ?_ ?_ ?_ ?_) ?_
              rotate_left 5
              refine (HExt.eq (by assumption) _ ?_ ?_).trans ?_
              · omega
              · intro h; cases h; done
              · assumption
              · rfl
              · exact rfl
              · refine gbound_tmp rfl ?_; refine Eq.trans (Int.ofNat_sub ?_).symm ?_; rotate_left 1; rfl; omega
              · omega
              · omega
              · simp; rfl
              · simp; rfl
            focus
              refine GOps.w rfl rfl rfl rfl (gop_call rfl Try.call40 rfl ?_ (hP _ _ _ _ ?_ ?_ ?_ ?_)) ?_
              · intro _ h; cases h; done
              rotate_left 1
              focus
                refine bs_subE (l := 0) (BS.ext (by assumption) ?_) rfl ?_ ?_
                · assumption
                · omega
                · rfl
              · omega
              · exact hD2
            rintro _ Hxe20 ⟨rfl, xe20⟩
            have xe20l := HExt.len xe20; try simp at xe20l
            refine GOps.r rfl rfl rfl rfl (grd_move rfl rfl) ?_
            focus
              refine GOps.r rfl rfl rfl rfl (grd_extract (v := ?_) rfl rfl ?_) ?_
              rotate_left 1
              · simp only [List.getElem?_toArray, List.getElem?_cons_zero, List.getElem?_cons_succ]; rfl
            focus
              refine GOps.r rfl rfl rfl rfl (grd_extract (v := ?_) rfl rfl ?_) ?_
              rotate_left 1
              · simp only [List.getElem?_toArray, List.getElem?_cons_zero, List.getElem?_cons_succ]; rfl
            focus
              refine GOps.w1 rfl rfl rfl rfl (gop_alloc' (id := ?_) ?_ tab_is rfl rfl ?_) ?_
              rotate_left 1
              · rfl
              · decide
            focus
              refine GOps.s rfl rfl rfl (gop_storeC (b := ?_) (cs := ?_) tab_is rfl rfl ?_ rfl rfl ?_ ?_ ?_ ?_ ?_ ?_) ?_
              rotate_left 2
              · rfl
              · rfl
              · exact Hp.at_push_eq
              · rfl
              · decide
              · exact .inr (by simp; omega)
              · simp [splice, Value.cells]; rfl
            refine GOps.r rfl rfl rfl rfl (grd_assign rfl rfl) ?_
            refine GOps.nil ?_
            refine GWP.seq ?_
            refine GWP.seq ?_
            refine GWP.region ?_
            refine GOps.r rfl rfl rfl rfl (grd_move rfl rfl) ?_
            refine GOps.r rfl rfl rfl rfl (grd_not rfl rfl) ?_
            refine GOps.nil ?_
            refine GWP.cond_t rfl ?_ ?_
            · simp; done
            refine GWP.seq ?_
            refine GWP.region ?_
            focus
              refine GOps.r rfl rfl rfl rfl (grd_build (cs := ?_) tab_is rfl rfl rfl ?_ rfl ?_) ?_
              rotate_left 1
              · decide
              · simp [gfill, gsets, Value.cells]; rfl
            focus
              refine GOps.s rfl rfl rfl (gop_storeC (b := ?_) (cs := ?_) tab_is rfl rfl ?_ rfl rfl ?_ ?_ ?_ ?_ ?_ ?_) ?_
              rotate_left 2
              · rfl
              · rfl
              refine (Hp.at_put_ne ?_).trans ?_
              · omega
              refine (Hp.at_push_lt ?_).trans ?_
              · omega
              refine (HExt.eq (by assumption) _ ?_ ?_).trans ?_
              · omega
              · intro h; cases h; done
              refine (HExt.eq (by assumption) _ ?_ ?_).trans ?_
              · omega
              · intro h; cases h; done
              refine (HExt.eq (by assumption) _ ?_ ?_).trans ?_
              · simp; done
              · simp; omega
              · exact Hp.at_push_eq
              · rfl
              · decide
              · exact .inr (by simp)
              · simp [splice, Value.cells]; rfl
            refine GOps.r rfl rfl rfl rfl (grd_assign rfl rfl) ?_
            refine GOps.nil ?_
            refine GWP.ret ?_
            focus
              refine ⟨_, (.two (gres_cellNK (b := ?_) (cs := ?_) rfl rfl rfl ?_ ?_ ?_) (.one rfl)), ?_⟩
              rotate_left 2
              refine Hp.at_put_eq ?_
              · simp; omega
              · decide
              · simp [Value.cells]; rfl
            refine ⟨?_, ?_⟩
            · rfl
            refine ⟨?_, ?_⟩
            focus
              refine ⟨?_, ?_, ?_⟩
              rotate_left 2
              focus
                refine rg_ne (b := ?_) ?_ ?_ ?_ ?_
                rotate_left 1
                focus
                  refine rg_ext (by assumption) ?_
                  refine HExt.put ?_ ?_
                  refine HExt.push ?_
                  refine HExt.tr ?_ (by assumption) ?_
                  · assumption
                  · intro _ h; cases h; done
                  · exact .inr (by omega)
                refine (Hp.at_put_ne ?_).trans ?_
                · omega
                refine (Hp.at_push_lt ?_).trans ?_
                · omega
                refine (HExt.eq (by assumption) _ ?_ ?_).trans ?_
                · omega
                · intro h; cases h; done
                refine (HExt.eq (by assumption) _ ?_ ?_).trans ?_
                · omega
                · intro h; cases h; done
                refine (HExt.eq (by assumption) _ ?_ ?_).trans ?_
                · simp; done
                · simp; omega
                · exact Hp.at_push_eq
                · omega
                · rfl
            refine ⟨?_, ?_⟩
            focus
              refine bsk_low ?_ ?_
              focus
                refine bsk_low ?_ ?_
                focus
                  refine bsk_push ?_
                  refine bsk_tail ?_ (by assumption)
                  refine bsk_tail ?_ (by assumption)
                  refine BSk.trans ?_ (by assumption)
                  refine bsk_push ?_
                  · exact BSk.refl _
                · omega
              · omega
            refine HExt.put ?_ ?_
            refine HExt.put ?_ ?_
            refine HExt.push ?_
            refine HExt.tr ?_ (by assumption) ?_
            refine HExt.tr ?_ (by assumption) ?_
            refine HExt.tr ?_ (by assumption) ?_
            refine HExt.push ?_
            · exact HExt.refl _ _
            · simp; done
            · intro _ h; cases h; done
            · intro _ h; cases h; done
            · exact .inr (by omega)
            · exact .inr (by omega)
        | some r =>
          rw [hp] at hP
          simp only at hP ⊢
          refine GCalls.body tab_is Try.func20 rfl Try.results20 Try.ntmps20 (by simp) ?_ ?_
          · first | (intro _ h; cases h; done) | (simp; done) | (simp; omega) | (intro i hi; simp at hi; rcases hi with rfl | rfl <;> omega) | (intro i hi; simp at hi; rcases hi with rfl | rfl | rfl <;> omega)
          focus
            refine GWP.seq ?_
            refine GWP.region ?_
            focus
              refine GOps.w1 rfl rfl rfl rfl (gop_alloc' (id := ?_) ?_ tab_is rfl rfl ?_) ?_
              rotate_left 1
              · rfl
              · decide
            refine GOps.r rfl rfl rfl rfl (grd_assign rfl rfl) ?_
            refine GOps.nil ?_
            refine GWP.seq ?_
            refine GWP.region ?_
            refine GOps.r rfl rfl rfl rfl (grd_move rfl rfl) ?_
            focus
              refine GOps.w rfl rfl rfl rfl (gop_call rfl Try.call39 rfl ?_ (hB4 _ ?_ ?_ ?_)) ?_
              · simp [Ctx.may]; done
              rotate_left 2
              refine rg_ext (by assumption) ?_
              refine HExt.push ?_
              · exact HExt.refl _ _
            rintro _ Hxf15 ⟨⟨jf1, of2, cf3, tf4, wf5, csf6, rfl, hbf7, hsf8, hof9, bf10⟩, ⟨pf11, cf12, rf13⟩, kf14, xf15⟩
            have xf15l := HExt.len xf15; try simp at xf15l
            have hbf7q := Hp.at_lt hbf7
            have rf13g := RG.hg rf13; unfold rdBlk at rf13g; have rf13q := Hp.at_lt rf13g
            refine GOps.r rfl rfl rfl rfl (grd_assign rfl rfl) ?_
            refine GOps.nil ?_
            refine GWP.seq ?_
            refine GWP.seq ?_
            refine GWP.region ?_
            refine GOps.r rfl rfl rfl rfl (grd_move rfl rfl) ?_
            refine GOps.r rfl rfl rfl rfl (grd_nil rfl rfl) ?_
            refine GOps.r rfl rfl rfl rfl (grd_fieldAddr tab_is rfl rfl rfl rfl rfl) ?_
            focus
              refine GOps.r rfl rfl rfl rfl (grd_load1 (b := ?_) (v := ?_) tab_is rfl rfl rfl rfl ?_ ?_) ?_
              rotate_left 2
              · assumption
              · rfl
            refine GOps.r rfl rfl rfl rfl (grd_neq rfl rfl rfl) ?_
            refine GOps.nil ?_
            refine GWP.cond_f rfl ?_ ?_
            · exact decide_eq_false (by omega)
            refine GWP.skip ?_
            refine GWP.seq ?_
            refine GWP.seq ?_
            refine GWP.draw [.reads [0, 1, 2, 3, 4, 5, 11, 6, 12, 7, 8], .write 9, .reads [10, 13, 14]] false [jf1] (by kernel_rfl) (by kernel_rfl) (by kernel_rfl) (by kernel_rfl) ?_ ?_
            · simp; omega
            refine GPcs.reads (by simp only [List.filterMap_cons, List.filterMap_nil, List.getElem?_toArray, List.getElem?_cons_succ, List.getElem?_cons_zero]; rfl) ?_
            refine GQ.r rfl rfl rfl rfl (grd_move rfl rfl) ?_ ?_
            · refine .inr ?_; simp
            refine GQ.r rfl rfl rfl rfl (grd_len tab_is rfl rfl rfl rfl rfl) ?_ ?_
            · refine .inr ?_; simp
            refine GQ.r rfl rfl rfl rfl (grd_lss rfl rfl rfl) ?_ ?_
            · refine .inr ?_; simp
            refine GQ.r rfl rfl rfl rfl (grd_move rfl rfl) ?_ ?_
            · refine .inr ?_; simp
            refine GQ.take rfl rfl ?_ ?_
            · simp; omega
            refine GQ.r rfl rfl rfl rfl (grd_move rfl rfl) ?_ ?_
            · refine .inr ?_; simp
            refine GQ.take rfl rfl ?_ ?_
            · simp; omega
            refine GQ.r rfl rfl rfl rfl (grd_move rfl rfl) ?_ ?_
            · refine .inr ?_; simp
            refine GQ.take rfl rfl ?_ ?_
            · simp; omega
            refine GQ.r rfl rfl rfl rfl (grd_move rfl rfl) ?_ ?_
            · refine .inr ?_; simp
            refine GQ.take rfl rfl ?_ ?_
            · simp; omega
            refine GQ.r rfl rfl rfl rfl (grd_len tab_is rfl rfl rfl rfl rfl) ?_ ?_
            · refine .inr ?_; simp
            refine GQ.take rfl rfl ?_ ?_
            · simp; omega
            focus
              refine GQ.r rfl rfl rfl rfl (grd_str (b := ?_) (l := ?_) tab_is rfl rfl rfl rfl rfl rfl rfl rfl ?_ ?_ ?_) ?_ ?_
              rotate_left 2
              · assumption
              · assumption
              · rfl
              · refine .inr ?_; simp
            refine GQ.take rfl rfl ?_ ?_
            · simp; omega
            refine GQ.r rfl rfl rfl rfl (grd_sub64 rfl rfl rfl ?_) ?_ ?_
            · omega
            · refine .inr ?_; simp
            refine GQ.take rfl rfl ?_ ?_
            · simp; omega
            focus
              refine GQ.r rfl rfl rfl rfl (grd_slL (l := ?_) (h := ?_) (o2 := ?_) (m2 := ?_) (b := ?_) tab_is rfl rfl rfl rfl ?_ ?_ ?_ ?_ ?_ ?_ ?_ ?_) ?_ ?_
              rotate_left 5
              · assumption
              · rfl
              · exact rfl
              · refine gbound_tmp rfl ?_; refine Eq.trans (Int.ofNat_sub ?_).symm ?_; rotate_left 1; rfl; omega
              · omega
              · omega
              · simp; rfl
              · simp; rfl
              · refine .inr ?_; simp
            refine GQ.nil ?_
            focus
              refine GPcs.write true [jf1] rfl rfl ?_ rfl rfl (gopf_call rfl Try.call38 rfl ?_ (g_rseal2 _ _ _ _ ?_ ?_ ?_)) rfl ?_ ?_ ?_ ?_
              · simp; omega
              · intro _ h; cases h; done
              rotate_left 1
              focus
                · refine bs_subE (l := 0) (by assumption) rfl (by omega) ?_; rfl
              · omega
              · intro _ h; cases h; done
              focus
                refine List.forall_mem_cons.2 ⟨⟨⟨?_, ?_⟩, ?_⟩, ?_⟩
                rotate_left 1
                · assumption
                · intro h; cases h; done
                · intro _ h; cases h; done
              · simp; done
            rintro _ Hxf19 ⟨pf16, cf17, rfl, sf18, xf19⟩
            have xf19l := HExt.len xf19; try simp at xf19l
            refine ⟨?_, ?_⟩
            · simp; omega
            refine GPcs.reads (by simp only [List.filterMap_cons, List.filterMap_nil, List.getElem?_toArray, List.getElem?_cons_succ, List.getElem?_cons_zero]; rfl) ?_
            refine GQ.take rfl rfl ?_ ?_
            · simp; omega
            focus
              refine GQ.re rfl rfl rfl rfl (grd_strBS (L := ?_) tab_is rfl rfl rfl rfl rfl rfl rfl rfl ?_) rfl ?_
              rotate_left 1
              · assumption
            refine GQ.take rfl rfl ?_ ?_
            · simp; omega
            refine GQ.r rfl rfl rfl rfl (grd_sneq' rfl rfl rfl) ?_ ?_
            · exact .inl rfl
            refine GQ.r rfl rfl rfl rfl (grd_pick_f rfl rfl ?_ rfl) ?_ ?_
            · exact decide_eq_false (by omega)
            · exact .inl rfl
            refine GQ.nil ?_
            refine GPcs.nil ?_
            refine GWP.cond_f rfl ?_ ?_
            · exact decide_eq_false (by assumption)
            refine GWP.skip ?_
            refine GWP.seq ?_
            refine GWP.region ?_
            refine GOps.r rfl rfl rfl rfl (grd_move rfl rfl) ?_
            refine GOps.r rfl rfl rfl rfl (grd_move rfl rfl) ?_
            refine GOps.r rfl rfl rfl rfl (grd_len tab_is rfl rfl rfl rfl rfl) ?_
            refine GOps.r rfl rfl rfl rfl (grd_sub64 rfl rfl rfl ?_) ?_
            · omega
            focus
              refine GOps.r rfl rfl rfl rfl (grd_slL (l := ?_) (h := ?_) (o2 := ?_) (m2 := ?_) (b := ?_) tab_is rfl rfl rfl rfl ?_ ?_ ?_ ?_ ?_ ?_ ?_ ?_) ?_
              rotate_left 5
              refine (HExt.eq (by assumption) _ ?_ ?_).trans ?_
              · omega
              · intro h; cases h; done
              · assumption
              · rfl
              · exact rfl
              · refine gbound_tmp rfl ?_; refine Eq.trans (Int.ofNat_sub ?_).symm ?_; rotate_left 1; rfl; omega
              · omega
              · omega
              · simp; rfl
              · simp; rfl
            focus
              refine GOps.w rfl rfl rfl rfl (gop_call rfl Try.call40 rfl ?_ (hP _ _ _ _ ?_ ?_ ?_ ?_)) ?_
              · intro _ h; cases h; done
              rotate_left 1
              focus
                refine bs_subE (l := 0) (BS.ext (by assumption) ?_) rfl ?_ ?_
                · assumption
                · omega
                · rfl
              · omega
              · exact hD2
            rintro _ Hxf20 ⟨rfl, xf20⟩
            have xf20l := HExt.len xf20; try simp at xf20l
            refine GOps.r rfl rfl rfl rfl (grd_move rfl rfl) ?_
            focus
              refine GOps.r rfl rfl rfl rfl (grd_extract (v := ?_) rfl rfl ?_) ?_
              rotate_left 1
              · simp only [List.getElem?_toArray, List.getElem?_cons_zero, List.getElem?_cons_succ]; rfl
            focus
              refine GOps.r rfl rfl rfl rfl (grd_extract (v := ?_) rfl rfl ?_) ?_
              rotate_left 1
              · simp only [List.getElem?_toArray, List.getElem?_cons_zero, List.getElem?_cons_succ]; rfl
            focus
              refine GOps.w1 rfl rfl rfl rfl (gop_alloc' (id := ?_) ?_ tab_is rfl rfl ?_) ?_
              rotate_left 1
              · rfl
              · decide
            focus
              refine GOps.s rfl rfl rfl (gop_storeC (b := ?_) (cs := ?_) tab_is rfl rfl ?_ rfl rfl ?_ ?_ ?_ ?_ ?_ ?_) ?_
              rotate_left 2
              · rfl
              · rfl
              · exact Hp.at_push_eq
              · rfl
              · exact Nat.le_of_ble_eq_true rfl
              · exact .inr (by simp; omega)
              · simp [splice, Value.cells]; rfl
            refine GOps.r rfl rfl rfl rfl (grd_assign rfl rfl) ?_
            refine GOps.nil ?_
            refine GWP.seq ?_
            refine GWP.seq ?_
            refine GWP.region ?_
            refine GOps.r rfl rfl rfl rfl (grd_move rfl rfl) ?_
            refine GOps.r rfl rfl rfl rfl (grd_not rfl rfl) ?_
            refine GOps.nil ?_
            refine GWP.cond_f rfl ?_ ?_
            · simp; done
            refine GWP.skip ?_
            refine GWP.seq ?_
            refine GWP.region ?_
            focus
              refine GOps.r rfl rfl rfl rfl (grd_loadNK (b := ?_) (cs := ?_) tab_is rfl rfl rfl rfl ?_ ?_ ?_) ?_
              rotate_left 2
              refine Hp.at_put_eq ?_
              · simp; done
              · exact Nat.le_of_ble_eq_true rfl
              · simp [Value.cells]; rfl
            focus
              refine GOps.s rfl rfl rfl (gop_storeC (b := ?_) (cs := ?_) tab_is rfl rfl ?_ rfl rfl ?_ ?_ ?_ ?_ ?_ ?_) ?_
              rotate_left 2
              · rfl
              · rfl
              refine (Hp.at_put_ne ?_).trans ?_
              · omega
              refine (Hp.at_push_lt ?_).trans ?_
              · omega
              refine (HExt.eq (by assumption) _ ?_ ?_).trans ?_
              · omega
              · intro h; cases h; done
              refine (HExt.eq (by assumption) _ ?_ ?_).trans ?_
              · omega
              · intro h; cases h; done
              refine (HExt.eq (by assumption) _ ?_ ?_).trans ?_
              · simp; done
              · simp; omega
              · exact Hp.at_push_eq
              · rfl
              · exact Nat.le_of_ble_eq_true rfl
              · exact .inr (by simp)
              · simp [splice, Value.cells]; rfl
            refine GOps.r rfl rfl rfl rfl (grd_assign rfl rfl) ?_
            refine GOps.nil ?_
            refine GWP.ret ?_
            focus
              refine ⟨_, (.two (gres_cellNK (b := ?_) (cs := ?_) rfl rfl rfl ?_ ?_ ?_) (.one rfl)), ?_⟩
              rotate_left 2
              refine Hp.at_put_eq ?_
              · simp; omega
              · exact Nat.le_of_ble_eq_true rfl
              · simp [Value.cells]; rfl
            refine ⟨?_, ?_⟩
            · rfl
            refine ⟨?_, ?_⟩
            focus
              refine ⟨?_, ?_, ?_⟩
              rotate_left 2
              focus
                refine rg_ne (b := ?_) ?_ ?_ ?_ ?_
                rotate_left 1
                focus
                  refine rg_ext (by assumption) ?_
                  refine HExt.put ?_ ?_
                  refine HExt.push ?_
                  refine HExt.tr ?_ (by assumption) ?_
                  · assumption
                  · intro _ h; cases h; done
                  · exact .inr (by omega)
                refine (Hp.at_put_ne ?_).trans ?_
                · omega
                refine (Hp.at_push_lt ?_).trans ?_
                · omega
                refine (HExt.eq (by assumption) _ ?_ ?_).trans ?_
                · omega
                · intro h; cases h; done
                refine (HExt.eq (by assumption) _ ?_ ?_).trans ?_
                · omega
                · intro h; cases h; done
                refine (HExt.eq (by assumption) _ ?_ ?_).trans ?_
                · simp; done
                · simp; omega
                · exact Hp.at_push_eq
                · omega
                · rfl
            refine ⟨?_, ?_⟩
            focus
              refine bsk_low ?_ ?_
              focus
                refine bsk_low ?_ ?_
                focus
                  refine bsk_push ?_
                  refine bsk_tail ?_ (by assumption)
                  refine bsk_tail ?_ (by assumption)
                  refine BSk.trans ?_ (by assumption)
                  refine bsk_push ?_
                  · exact BSk.refl _
                · omega
              · omega
            refine HExt.put ?_ ?_
            refine HExt.put ?_ ?_
            refine HExt.push ?_
            refine HExt.tr ?_ (by assumption) ?_
            refine HExt.tr ?_ (by assumption) ?_
            refine HExt.tr ?_ (by assumption) ?_
            refine HExt.push ?_
            · exact HExt.refl _ _
            · simp; done
            · intro _ h; cases h; done
            · intro _ h; cases h; done
            · exact .inr (by omega)
            · exact .inr (by omega)
end Go.Proofs.Ytjlimdiimdihfaa

/- The functions that are run: each row is checked against the program. -/
namespace Go.Proofs.Ytjlimdiimdihfaa
noncomputable def fe3 : Nat × FE := (3, ⟨Option.getD Try.f3.body .skip, Try.f3.results.toList, 49, ofL [(7, [.rd 0, .rd 1, .rd 2, .rd 3, .rd 4, .rd 6, .wr 5 [] [6], .rd 7, .rd 8, .wr 9 [] []])] .e⟩)
theorem fe3_ok : FEOk Try.prog fe3 := ⟨by decide, by decide, by kernel_rfl, Try.call3, Try.f3, Try.func3, rfl, rfl, rfl⟩
noncomputable def fe4 : Nat × FE := (4, ⟨Option.getD Try.f4.body .skip, Try.f4.results.toList, 65, ofL [(8, [.rd 0, .rd 1, .rd 2, .rd 3, .rd 4, .rd 5, .wr 6 [] [4], .rd 7, .rd 8, .rd 9, .rd 10, .rd 11, .rd 12, .rd 13, .rd 14, .rd 15, .rd 17, .wr 16 [] [17], .rd 18, .rd 19, .rd 20, .rd 21, .rd 22, .wr 23 [] [], .rd 24, .wr 25 [] []])] .e⟩)
theorem fe4_ok : FEOk Try.prog fe4 := ⟨by decide, by decide, by kernel_rfl, Try.call4, Try.f4, Try.func4, rfl, rfl, rfl⟩
noncomputable def fe5 : Nat × FE := (5, ⟨Option.getD Try.f5.body .skip, Try.f5.results.toList, 54, ofL [(11, [.rd 0, .rd 1, .rd 2, .rd 3, .rd 4, .rd 6, .wr 5 [] [6], .rd 7, .rd 8, .wr 9 [] []])] .e⟩)
theorem fe5_ok : FEOk Try.prog fe5 := ⟨by decide, by decide, by kernel_rfl, Try.call5, Try.f5, Try.func5, rfl, rfl, rfl⟩
noncomputable def fe6 : Nat × FE := (6, ⟨Option.getD Try.f6.body .skip, Try.f6.results.toList, 21, ofL [(3, [.rd 0, .rd 1, .rd 3, .rd 5, .wr 2 [] [5, 3], .wr 4 [] [5], .wr 6 [] [], .rd 7, .rd 8, .rd 9, .rd 10, .rd 11, .wr 12 [] [], .rd 13, .wr 14 [] []])] .e⟩)
theorem fe6_ok : FEOk Try.prog fe6 := ⟨by decide, by decide, by kernel_rfl, Try.call6, Try.f6, Try.func6, rfl, rfl, rfl⟩
noncomputable def fe7 : Nat × FE := (7, ⟨Option.getD Try.f7.body .skip, Try.f7.results.toList, 38, ofL [] .e⟩)
theorem fe7_ok : FEOk Try.prog fe7 := ⟨by decide, by decide, by kernel_rfl, Try.call7, Try.f7, Try.func7, rfl, rfl, rfl⟩
noncomputable def fe8 : Nat × FE := (8, ⟨Option.getD Try.f8.body .skip, Try.f8.results.toList, 24, ofL [] .e⟩)
theorem fe8_ok : FEOk Try.prog fe8 := ⟨by decide, by decide, by kernel_rfl, Try.call8, Try.f8, Try.func8, rfl, rfl, rfl⟩
noncomputable def fe9 : Nat × FE := (9, ⟨Option.getD Try.f9.body .skip, Try.f9.results.toList, 95, ofL [] .e⟩)
theorem fe9_ok : FEOk Try.prog fe9 := ⟨by decide, by decide, by kernel_rfl, Try.call9, Try.f9, Try.func9, rfl, rfl, rfl⟩
noncomputable def fe10 : Nat × FE := (10, ⟨Option.getD Try.f10.body .skip, Try.f10.results.toList, 71, ofL [] .e⟩)
theorem fe10_ok : FEOk Try.prog fe10 := ⟨by decide, by decide, by kernel_rfl, Try.call10, Try.f10, Try.func10, rfl, rfl, rfl⟩
noncomputable def fe11 : Nat × FE := (11, ⟨Option.getD Try.f11.body .skip, Try.f11.results.toList, 46, ofL [] .e⟩)
theorem fe11_ok : FEOk Try.prog fe11 := ⟨by decide, by decide, by kernel_rfl, Try.call11, Try.f11, Try.func11, rfl, rfl, rfl⟩
noncomputable def fe12 : Nat × FE := (12, ⟨Option.getD Try.f12.body .skip, Try.f12.results.toList, 26, ofL [] .e⟩)
theorem fe12_ok : FEOk Try.prog fe12 := ⟨by decide, by decide, by kernel_rfl, Try.call12, Try.f12, Try.func12, rfl, rfl, rfl⟩
noncomputable def fe13 : Nat × FE := (13, ⟨Option.getD Try.f13.body .skip, Try.f13.results.toList, 27, ofL [] .e⟩)
theorem fe13_ok : FEOk Try.prog fe13 := ⟨by decide, by decide, by kernel_rfl, Try.call13, Try.f13, Try.func13, rfl, rfl, rfl⟩
noncomputable def fe14 : Nat × FE := (14, ⟨Option.getD Try.f14.body .skip, Try.f14.results.toList, 27, ofL [] .e⟩)
theorem fe14_ok : FEOk Try.prog fe14 := ⟨by decide, by decide, by kernel_rfl, Try.call14, Try.f14, Try.func14, rfl, rfl, rfl⟩
noncomputable def fe15 : Nat × FE := (15, ⟨Option.getD Try.f15.body .skip, Try.f15.results.toList, 159, ofL [] .e⟩)
theorem fe15_ok : FEOk Try.prog fe15 := ⟨by decide, by decide, by kernel_rfl, Try.call15, Try.f15, Try.func15, rfl, rfl, rfl⟩
noncomputable def fe16 : Nat × FE := (16, ⟨Option.getD Try.f16.body .skip, Try.f16.results.toList, 28, ofL [] .e⟩)
theorem fe16_ok : FEOk Try.prog fe16 := ⟨by decide, by decide, by kernel_rfl, Try.call16, Try.f16, Try.func16, rfl, rfl, rfl⟩
noncomputable def fe17 : Nat × FE := (17, ⟨Option.getD Try.f17.body .skip, Try.f17.results.toList, 7, ofL [] .e⟩)
theorem fe17_ok : FEOk Try.prog fe17 := ⟨by decide, by decide, by kernel_rfl, Try.call17, Try.f17, Try.func17, rfl, rfl, rfl⟩
noncomputable def fe18 : Nat × FE := (18, ⟨Option.getD Try.f18.body .skip, Try.f18.results.toList, 70, ofL [] .e⟩)
theorem fe18_ok : FEOk Try.prog fe18 := ⟨by decide, by decide, by kernel_rfl, Try.call18, Try.f18, Try.func18, rfl, rfl, rfl⟩
noncomputable def fe19 : Nat × FE := (19, ⟨Option.getD Try.f19.body .skip, Try.f19.results.toList, 54, ofL [] .e⟩)
theorem fe19_ok : FEOk Try.prog fe19 := ⟨by decide, by decide, by kernel_rfl, Try.call19, Try.f19, Try.func19, rfl, rfl, rfl⟩
noncomputable def fe20 : Nat × FE := (20, ⟨Option.getD Try.f20.body .skip, Try.f20.results.toList, 48, ofL [(3, [.rd 0, .rd 1, .rd 2, .rd 3, .rd 4, .wr 5 [] [4], .wr 6 [] []]), (4, [.rd 0, .rd 1, .rd 2, .rd 3, .rd 4, .rd 5, .rd 6, .rd 7, .rd 8, .rd 11, .rd 12, .wr 9 [] [12], .rd 10, .rd 13, .rd 14])] .e⟩)
theorem fe20_ok : FEOk Try.prog fe20 := ⟨by decide, by decide, by kernel_rfl, Try.call20, Try.f20, Try.func20, rfl, rfl, rfl⟩
noncomputable def fe21 : Nat × FE := (21, ⟨Option.getD Try.f21.body .skip, Try.f21.results.toList, 52, ofL [] .e⟩)
theorem fe21_ok : FEOk Try.prog fe21 := ⟨by decide, by decide, by kernel_rfl, Try.call21, Try.f21, Try.func21, rfl, rfl, rfl⟩
noncomputable def fe22 : Nat × FE := (22, ⟨Option.getD Try.f22.body .skip, Try.f22.results.toList, 105, ofL [(11, [.rd 0, .rd 1, .rd 2, .rd 3, .rd 4, .rd 5, .wr 6 [] [4], .rd 7, .rd 8, .rd 9, .rd 10, .rd 11, .rd 12, .rd 13, .rd 14, .rd 15, .rd 16, .rd 17, .rd 18, .rd 19, .rd 21, .wr 20 [] [21], .rd 22, .rd 23, .rd 24, .rd 25, .rd 26, .rd 27, .rd 28, .rd 29, .rd 31, .wr 30 [] [31], .rd 32, .rd 33, .rd 34, .rd 35, .rd 36, .rd 37, .wr 38 [] []])] .e⟩)
theorem fe22_ok : FEOk Try.prog fe22 := ⟨by decide, by decide, by kernel_rfl, Try.call22, Try.f22, Try.func22, rfl, rfl, rfl⟩
noncomputable def fe23 : Nat × FE := (23, ⟨Option.getD Try.f23.body .skip, Try.f23.results.toList, 20, ofL [] .e⟩)
theorem fe23_ok : FEOk Try.prog fe23 := ⟨by decide, by decide, by kernel_rfl, Try.call23, Try.f23, Try.func23, rfl, rfl, rfl⟩
noncomputable def fe24 : Nat × FE := (24, ⟨Option.getD Try.f24.body .skip, Try.f24.results.toList, 42, ofL [] .e⟩)
theorem fe24_ok : FEOk Try.prog fe24 := ⟨by decide, by decide, by kernel_rfl, Try.call24, Try.f24, Try.func24, rfl, rfl, rfl⟩
noncomputable def fe25 : Nat × FE := (25, ⟨Option.getD Try.f25.body .skip, Try.f25.results.toList, 15, ofL [] .e⟩)
theorem fe25_ok : FEOk Try.prog fe25 := ⟨by decide, by decide, by kernel_rfl, Try.call25, Try.f25, Try.func25, rfl, rfl, rfl⟩
noncomputable def fe26 : Nat × FE := (26, ⟨Option.getD Try.f26.body .skip, Try.f26.results.toList, 24, ofL [(1, [.rd 0, .rd 1, .rd 2, .rd 3, .rd 4, .rd 5, .rd 6, .rd 7, .rd 8, .rd 11, .rd 12, .wr 9 [] [12], .rd 10, .rd 13, .rd 14])] .e⟩)
theorem fe26_ok : FEOk Try.prog fe26 := ⟨by decide, by decide, by kernel_rfl, Try.call26, Try.f26, Try.func26, rfl, rfl, rfl⟩
noncomputable def fe27 : Nat × FE := (27, ⟨Option.getD Try.f27.body .skip, Try.f27.results.toList, 45, ofL [] .e⟩)
theorem fe27_ok : FEOk Try.prog fe27 := ⟨by decide, by decide, by kernel_rfl, Try.call27, Try.f27, Try.func27, rfl, rfl, rfl⟩
noncomputable def fe28 : Nat × FE := (28, ⟨Option.getD Try.f28.body .skip, Try.f28.results.toList, 46, ofL [] .e⟩)
theorem fe28_ok : FEOk Try.prog fe28 := ⟨by decide, by decide, by kernel_rfl, Try.call28, Try.f28, Try.func28, rfl, rfl, rfl⟩
noncomputable def fe29 : Nat × FE := (29, ⟨Option.getD Try.f29.body .skip, Try.f29.results.toList, 23, ofL [] .e⟩)
theorem fe29_ok : FEOk Try.prog fe29 := ⟨by decide, by decide, by kernel_rfl, Try.call29, Try.f29, Try.func29, rfl, rfl, rfl⟩
noncomputable def fe30 : Nat × FE := (30, ⟨Option.getD Try.f30.body .skip, Try.f30.results.toList, 20, ofL [] .e⟩)
theorem fe30_ok : FEOk Try.prog fe30 := ⟨by decide, by decide, by kernel_rfl, Try.call30, Try.f30, Try.func30, rfl, rfl, rfl⟩
noncomputable def fe31 : Nat × FE := (31, ⟨Option.getD Try.f31.body .skip, Try.f31.results.toList, 57, ofL [(6, [.rd 0, .rd 1, .rd 2, .rd 3, .rd 4, .rd 7, .rd 8, .wr 5 [] [8], .wr 6 [] [8], .wr 9 [] [], .wr 10 [] []])] .e⟩)
theorem fe31_ok : FEOk Try.prog fe31 := ⟨by decide, by decide, by kernel_rfl, Try.call31, Try.f31, Try.func31, rfl, rfl, rfl⟩
noncomputable def fe32 : Nat × FE := (32, ⟨Option.getD Try.f32.body .skip, Try.f32.results.toList, 47, ofL [] .e⟩)
theorem fe32_ok : FEOk Try.prog fe32 := ⟨by decide, by decide, by kernel_rfl, Try.call32, Try.f32, Try.func32, rfl, rfl, rfl⟩
noncomputable def fe33 : Nat × FE := (33, ⟨Option.getD Try.f33.body .skip, Try.f33.results.toList, 9, ofL [] .e⟩)
theorem fe33_ok : FEOk Try.prog fe33 := ⟨by decide, by decide, by kernel_rfl, Try.call33, Try.f33, Try.func33, rfl, rfl, rfl⟩
noncomputable def fe34 : Nat × FE := (34, ⟨Option.getD Try.f34.body .skip, Try.f34.results.toList, 100, ofL [] .e⟩)
theorem fe34_ok : FEOk Try.prog fe34 := ⟨by decide, by decide, by kernel_rfl, Try.call34, Try.f34, Try.func34, rfl, rfl, rfl⟩
noncomputable def fe35 : Nat × FE := (35, ⟨Option.getD Try.f35.body .skip, Try.f35.results.toList, 8, ofL [] .e⟩)
theorem fe35_ok : FEOk Try.prog fe35 := ⟨by decide, by decide, by kernel_rfl, Try.call35, Try.f35, Try.func35, rfl, rfl, rfl⟩
noncomputable def fe36 : Nat × FE := (36, ⟨Option.getD Try.f36.body .skip, Try.f36.results.toList, 17, ofL [] .e⟩)
theorem fe36_ok : FEOk Try.prog fe36 := ⟨by decide, by decide, by kernel_rfl, Try.call36, Try.f36, Try.func36, rfl, rfl, rfl⟩
noncomputable def fe37 : Nat × FE := (37, ⟨Option.getD Try.f37.body .skip, Try.f37.results.toList, 9, ofL [] .e⟩)
theorem fe37_ok : FEOk Try.prog fe37 := ⟨by decide, by decide, by kernel_rfl, Try.call37, Try.f37, Try.func37, rfl, rfl, rfl⟩
noncomputable def fe38 : Nat × FE := (38, ⟨Option.getD Try.f38.body .skip, Try.f38.results.toList, 24, ofL [] .e⟩)
theorem fe38_ok : FEOk Try.prog fe38 := ⟨by decide, by decide, by kernel_rfl, Try.call38, Try.f38, Try.func38, rfl, rfl, rfl⟩
noncomputable def fe39 : Nat × FE := (39, ⟨Option.getD Try.f39.body .skip, Try.f39.results.toList, 52, ofL [] .e⟩)
theorem fe39_ok : FEOk Try.prog fe39 := ⟨by decide, by decide, by kernel_rfl, Try.call39, Try.f39, Try.func39, rfl, rfl, rfl⟩
noncomputable def fe40 : Nat × FE := (40, ⟨Option.getD Try.f40.body .skip, Try.f40.results.toList, 101, ofL [(12, [.rd 0, .rd 1, .rd 2, .rd 3, .rd 4, .rd 5, .rd 6, .rd 7, .rd 8, .rd 9, .wr 10 [] []])] .e⟩)
theorem fe40_ok : FEOk Try.prog fe40 := ⟨by decide, by decide, by kernel_rfl, Try.call40, Try.f40, Try.func40, rfl, rfl, rfl⟩
noncomputable def fe41 : Nat × FE := (41, ⟨Option.getD Try.f41.body .skip, Try.f41.results.toList, 32, ofL [] .e⟩)
theorem fe41_ok : FEOk Try.prog fe41 := ⟨by decide, by decide, by kernel_rfl, Try.call41, Try.f41, Try.func41, rfl, rfl, rfl⟩
noncomputable def fe42 : Nat × FE := (42, ⟨Option.getD Try.f42.body .skip, Try.f42.results.toList, 42, ofL [(3, [.rd 0, .rd 1, .rd 3, .rd 4, .wr 2 [] [4], .rd 6, .wr 5 [] [], .wr 7 [] [], .rd 8, .wr 9 [] []])] .e⟩)
theorem fe42_ok : FEOk Try.prog fe42 := ⟨by decide, by decide, by kernel_rfl, Try.call42, Try.f42, Try.func42, rfl, rfl, rfl⟩
noncomputable def fe43 : Nat × FE := (43, ⟨Option.getD Try.f43.body .skip, Try.f43.results.toList, 3, ofL [] .e⟩)
theorem fe43_ok : FEOk Try.prog fe43 := ⟨by decide, by decide, by kernel_rfl, Try.call43, Try.f43, Try.func43, rfl, rfl, rfl⟩
noncomputable def fe44 : Nat × FE := (44, ⟨Option.getD Try.f44.body .skip, Try.f44.results.toList, 18, ofL [] .e⟩)
theorem fe44_ok : FEOk Try.prog fe44 := ⟨by decide, by decide, by kernel_rfl, Try.call44, Try.f44, Try.func44, rfl, rfl, rfl⟩
noncomputable def fe45 : Nat × FE := (45, ⟨Option.getD Try.f45.body .skip, Try.f45.results.toList, 10, ofL [] .e⟩)
theorem fe45_ok : FEOk Try.prog fe45 := ⟨by decide, by decide, by kernel_rfl, Try.call45, Try.f45, Try.func45, rfl, rfl, rfl⟩
noncomputable def fe46 : Nat × FE := (46, ⟨Option.getD Try.f46.body .skip, Try.f46.results.toList, 29, ofL [] .e⟩)
theorem fe46_ok : FEOk Try.prog fe46 := ⟨by decide, by decide, by kernel_rfl, Try.call46, Try.f46, Try.func46, rfl, rfl, rfl⟩
noncomputable def fe47 : Nat × FE := (47, ⟨Option.getD Try.f47.body .skip, Try.f47.results.toList, 18, ofL [] .e⟩)
theorem fe47_ok : FEOk Try.prog fe47 := ⟨by decide, by decide, by kernel_rfl, Try.call47, Try.f47, Try.func47, rfl, rfl, rfl⟩
noncomputable def fe48 : Nat × FE := (48, ⟨Option.getD Try.f48.body .skip, Try.f48.results.toList, 30, ofL [] .e⟩)
theorem fe48_ok : FEOk Try.prog fe48 := ⟨by decide, by decide, by kernel_rfl, Try.call48, Try.f48, Try.func48, rfl, rfl, rfl⟩
noncomputable def fe49 : Nat × FE := (49, ⟨Option.getD Try.f49.body .skip, Try.f49.results.toList, 26, ofL [(6, [.rd 0, .rd 1, .rd 2, .rd 3, .rd 4, .rd 5, .rd 6, .rd 7, .rd 8])] .e⟩)
theorem fe49_ok : FEOk Try.prog fe49 := ⟨by decide, by decide, by kernel_rfl, Try.call49, Try.f49, Try.func49, rfl, rfl, rfl⟩
noncomputable def fe50 : Nat × FE := (50, ⟨Option.getD Try.f50.body .skip, Try.f50.results.toList, 43, ofL [] .e⟩)
theorem fe50_ok : FEOk Try.prog fe50 := ⟨by decide, by decide, by kernel_rfl, Try.call50, Try.f50, Try.func50, rfl, rfl, rfl⟩
noncomputable def fe51 : Nat × FE := (51, ⟨Option.getD Try.f51.body .skip, Try.f51.results.toList, 13, ofL [] .e⟩)
theorem fe51_ok : FEOk Try.prog fe51 := ⟨by decide, by decide, by kernel_rfl, Try.call51, Try.f51, Try.func51, rfl, rfl, rfl⟩
noncomputable def fe52 : Nat × FE := (52, ⟨Option.getD Try.f52.body .skip, Try.f52.results.toList, 56, ofL [] .e⟩)
theorem fe52_ok : FEOk Try.prog fe52 := ⟨by decide, by decide, by kernel_rfl, Try.call52, Try.f52, Try.func52, rfl, rfl, rfl⟩
noncomputable def fe53 : Nat × FE := (53, ⟨Option.getD Try.f53.body .skip, Try.f53.results.toList, 47, ofL [] .e⟩)
theorem fe53_ok : FEOk Try.prog fe53 := ⟨by decide, by decide, by kernel_rfl, Try.call53, Try.f53, Try.func53, rfl, rfl, rfl⟩
noncomputable def fe54 : Nat × FE := (54, ⟨Option.getD Try.f54.body .skip, Try.f54.results.toList, 9, ofL [] .e⟩)
theorem fe54_ok : FEOk Try.prog fe54 := ⟨by decide, by decide, by kernel_rfl, Try.call54, Try.f54, Try.func54, rfl, rfl, rfl⟩
noncomputable def fe55 : Nat × FE := (55, ⟨Option.getD Try.f55.body .skip, Try.f55.results.toList, 36, ofL [] .e⟩)
theorem fe55_ok : FEOk Try.prog fe55 := ⟨by decide, by decide, by kernel_rfl, Try.call55, Try.f55, Try.func55, rfl, rfl, rfl⟩
noncomputable def fe56 : Nat × FE := (56, ⟨Option.getD Try.f56.body .skip, Try.f56.results.toList, 37, ofL [] .e⟩)
theorem fe56_ok : FEOk Try.prog fe56 := ⟨by decide, by decide, by kernel_rfl, Try.call56, Try.f56, Try.func56, rfl, rfl, rfl⟩
noncomputable def fe57 : Nat × FE := (57, ⟨Option.getD Try.f57.body .skip, Try.f57.results.toList, 8, ofL [] .e⟩)
theorem fe57_ok : FEOk Try.prog fe57 := ⟨by decide, by decide, by kernel_rfl, Try.call57, Try.f57, Try.func57, rfl, rfl, rfl⟩
noncomputable def fe58 : Nat × FE := (58, ⟨Option.getD Try.f58.body .skip, Try.f58.results.toList, 22, ofL [] .e⟩)
theorem fe58_ok : FEOk Try.prog fe58 := ⟨by decide, by decide, by kernel_rfl, Try.call58, Try.f58, Try.func58, rfl, rfl, rfl⟩
noncomputable def fe59 : Nat × FE := (59, ⟨Option.getD Try.f59.body .skip, Try.f59.results.toList, 12, ofL [] .e⟩)
theorem fe59_ok : FEOk Try.prog fe59 := ⟨by decide, by decide, by kernel_rfl, Try.call59, Try.f59, Try.func59, rfl, rfl, rfl⟩
noncomputable def fe60 : Nat × FE := (60, ⟨Option.getD Try.f60.body .skip, Try.f60.results.toList, 59, ofL [(5, [.rd 0, .rd 1, .rd 2, .rd 3, .rd 4, .rd 5, .rd 6, .rd 7, .rd 8, .rd 9, .wr 10 [] []]), (7, [.rd 0, .rd 1, .rd 2, .rd 3, .rd 4, .rd 5, .rd 6, .rd 7, .rd 8, .wr 9 [] [], .wr 10 [] []]), (9, [.rd 0, .rd 1, .rd 2, .rd 3, .rd 4, .rd 5, .rd 6, .rd 7, .rd 8, .rd 9, .wr 10 [] [9, 7, 3], .wr 11 [] []])] .e⟩)
theorem fe60_ok : FEOk Try.prog fe60 := ⟨by decide, by decide, by kernel_rfl, Try.call60, Try.f60, Try.func60, rfl, rfl, rfl⟩
noncomputable def fe61 : Nat × FE := (61, ⟨Option.getD Try.f61.body .skip, Try.f61.results.toList, 26, ofL [] .e⟩)
theorem fe61_ok : FEOk Try.prog fe61 := ⟨by decide, by decide, by kernel_rfl, Try.call61, Try.f61, Try.func61, rfl, rfl, rfl⟩
noncomputable def fe62 : Nat × FE := (62, ⟨Option.getD Try.f62.body .skip, Try.f62.results.toList, 114, ofL [(3, [.rd 0, .rd 1, .rd 2, .rd 3, .rd 4, .rd 7, .rd 8, .rd 9, .rd 11, .rd 12, .rd 13, .rd 14, .rd 15, .wr 5 [] [15, 8], .rd 6, .rd 10, .rd 16, .wr 17 [] []]), (5, [.rd 0, .rd 1, .rd 2, .rd 3, .rd 4, .rd 5, .rd 6, .rd 7, .wr 8 [] [], .rd 9, .rd 10, .rd 11, .wr 12 [] [], .wr 13 [] []]), (6, [.rd 0, .rd 1, .rd 2, .rd 3, .rd 4, .rd 5, .rd 6, .rd 7, .rd 8, .rd 9, .rd 10, .rd 11, .rd 12, .rd 13, .rd 14, .rd 15, .wr 16 [] []]), (7, [.rd 0, .rd 1, .rd 2, .rd 3, .rd 4, .rd 5, .rd 6, .rd 7, .rd 8, .rd 9, .rd 10, .rd 11, .wr 12 [] [], .rd 13, .wr 14 [] []]), (10, [.rd 0, .rd 1, .rd 2, .rd 3, .rd 4, .rd 5, .wr 6 [] [4], .wr 7 [] [], .rd 8, .rd 9, .wr 10 [] []]), (13, [.rd 0, .rd 1, .rd 2, .rd 3, .rd 4, .rd 5, .rd 6, .rd 7, .rd 8, .rd 9, .rd 10, .wr 11 [] [4], .wr 12 [] [], .rd 13, .rd 14, .wr 15 [] []])] .e⟩)
theorem fe62_ok : FEOk Try.prog fe62 := ⟨by decide, by decide, by kernel_rfl, Try.call62, Try.f62, Try.func62, rfl, rfl, rfl⟩
noncomputable def fe63 : Nat × FE := (63, ⟨Option.getD Try.f63.body .skip, Try.f63.results.toList, 9, ofL [] .e⟩)
theorem fe63_ok : FEOk Try.prog fe63 := ⟨by decide, by decide, by kernel_rfl, Try.call63, Try.f63, Try.func63, rfl, rfl, rfl⟩
noncomputable def fe64 : Nat × FE := (64, ⟨Option.getD Try.f64.body .skip, Try.f64.results.toList, 27, ofL [] .e⟩)
theorem fe64_ok : FEOk Try.prog fe64 := ⟨by decide, by decide, by kernel_rfl, Try.call64, Try.f64, Try.func64, rfl, rfl, rfl⟩
noncomputable def fe65 : Nat × FE := (65, ⟨Option.getD Try.f65.body .skip, Try.f65.results.toList, 54, ofL [] .e⟩)
theorem fe65_ok : FEOk Try.prog fe65 := ⟨by decide, by decide, by kernel_rfl, Try.call65, Try.f65, Try.func65, rfl, rfl, rfl⟩
noncomputable def fe66 : Nat × FE := (66, ⟨Option.getD Try.f66.body .skip, Try.f66.results.toList, 19, ofL [] .e⟩)
theorem fe66_ok : FEOk Try.prog fe66 := ⟨by decide, by decide, by kernel_rfl, Try.call66, Try.f66, Try.func66, rfl, rfl, rfl⟩
noncomputable def fe83 : Nat × FE := (83, ⟨Option.getD Try.f83.body .skip, Try.f83.results.toList, 16, ofL [(1, [.rd 0, .rd 1, .rd 2, .rd 3, .rd 4, .rd 5, .rd 6, .rd 7, .rd 8, .rd 9, .rd 10, .wr 11 [] [9, 7, 5, 3, 1], .wr 12 [] [], .wr 13 [] []])] .e⟩)
theorem fe83_ok : FEOk Try.prog fe83 := ⟨by decide, by decide, by kernel_rfl, Try.call83, Try.f83, Try.func83, rfl, rfl, rfl⟩
noncomputable def fe84 : Nat × FE := (84, ⟨Option.getD Try.f84.body .skip, Try.f84.results.toList, 18, ofL [(4, [.rd 0, .rd 1, .rd 2, .rd 3, .rd 4, .rd 5, .rd 6, .rd 7, .rd 8, .rd 9, .wr 10 [] [7, 5, 3, 1], .wr 11 [] [], .wr 12 [] []])] .e⟩)
theorem fe84_ok : FEOk Try.prog fe84 := ⟨by decide, by decide, by kernel_rfl, Try.call84, Try.f84, Try.func84, rfl, rfl, rfl⟩
noncomputable def fe85 : Nat × FE := (85, ⟨Option.getD Try.f85.body .skip, Try.f85.results.toList, 7, ofL [] .e⟩)
theorem fe85_ok : FEOk Try.prog fe85 := ⟨by decide, by decide, by kernel_rfl, Try.call85, Try.f85, Try.func85, rfl, rfl, rfl⟩
noncomputable def ftL : List (Nat × FE) := [fe3, fe4, fe5, fe6, fe7, fe8, fe9, fe10, fe11, fe12, fe13, fe14, fe15, fe16, fe17, fe18, fe19, fe20, fe21, fe22, fe23, fe24, fe25, fe26, fe27, fe28, fe29, fe30, fe31, fe32, fe33, fe34, fe35, fe36, fe37, fe38, fe39, fe40, fe41, fe42, fe43, fe44, fe45, fe46, fe47, fe48, fe49, fe50, fe51, fe52, fe53, fe54, fe55, fe56, fe57, fe58, fe59, fe60, fe61, fe62, fe63, fe64, fe65, fe66, fe83, fe84, fe85]
theorem ftL_ok : FLOk Try.prog ftL := (.cons fe3_ok (.cons fe4_ok (.cons fe5_ok (.cons fe6_ok (.cons fe7_ok (.cons fe8_ok (.cons fe9_ok (.cons fe10_ok (.cons fe11_ok (.cons fe12_ok (.cons fe13_ok (.cons fe14_ok (.cons fe15_ok (.cons fe16_ok (.cons fe17_ok (.cons fe18_ok (.cons fe19_ok (.cons fe20_ok (.cons fe21_ok (.cons fe22_ok (.cons fe23_ok (.cons fe24_ok (.cons fe25_ok (.cons fe26_ok (.cons fe27_ok (.cons fe28_ok (.cons fe29_ok (.cons fe30_ok (.cons fe31_ok (.cons fe32_ok (.cons fe33_ok (.cons fe34_ok (.cons fe35_ok (.cons fe36_ok (.cons fe37_ok (.cons fe38_ok (.cons fe39_ok (.cons fe40_ok (.cons fe41_ok (.cons fe42_ok (.cons fe43_ok (.cons fe44_ok (.cons fe45_ok (.cons fe46_ok (.cons fe47_ok (.cons fe48_ok (.cons fe49_ok (.cons fe50_ok (.cons fe51_ok (.cons fe52_ok (.cons fe53_ok (.cons fe54_ok (.cons fe55_ok (.cons fe56_ok (.cons fe57_ok (.cons fe58_ok (.cons fe59_ok (.cons fe60_ok (.cons fe61_ok (.cons fe62_ok (.cons fe63_ok (.cons fe64_ok (.cons fe65_ok (.cons fe66_ok (.cons fe83_ok (.cons fe84_ok (.cons fe85_ok  .nil)))))))))))))))))))))))))))))))))))))))))))))))))))))))))))))))))))
noncomputable def ft : Tr FE := ofL ftL .e
theorem ft_ok : FTOk Try.prog ft := ftL_ok.ok
end Go.Proofs.Ytjlimdiimdihfaa

/- Runs, and walks that end in one. -/
namespace Go.Proofs.Ytjlimdiimdihfaa
open Go.RowKit

theorem gop_call0 {P : Program} {C : Ctx} {o : Oper} {env : Env} {H : Hp} {f : FuncId} {ts : Array TypeId} {F : List Nat} {R : Value → Hp → Prop} (ho : o.op = .call { callee := .value (.func f), args := #[], argTypes := ts }) (hc : ∀ (args : Array Value) (w : World), (callFunc f args).run P w = .ok (.enter f args) w) (hm : ∀ i ∈ F, C.may i) (h : GCalls P f [] F H R) : GOp P C o env H R := gop_call (xs := []) ho hc rfl hm h
theorem one_sees {s0 : Nat} {v0 : Value} (h0 : s0 < trMax) {env : Env} (he : env.get s0 = some v0) : ∀ s v, (ofL [(s0, v0)] .e).get s = some v → env.get s = some v := fun s v h => by
  rcases ofL_get (fun p hp => by rw [List.mem_singleton] at hp; subst hp; exact h0) h with h1 | h1
  · rw [List.mem_singleton] at h1
    injection h1 with h1 h2
    subst h1 h2
    exact he
  · cases h1
theorem may0 (F : List Nat) {H : PH} : CL ⟨F, ([] : Hp).length⟩ H := ⟨Nat.zero_le _, fun i _ _ => .inr (Nat.zero_le i)⟩
/-- What a run left. -/
noncomputable def rX (x : Option (Exit × Tr Value × PH)) : Exit := match x with
  | some (e, _, _) => e
  | none => .normal
noncomputable def rE (x : Option (Exit × Tr Value × PH)) : Tr Value := match x with
  | some (_, E, _) => E
  | none => .e
noncomputable def rH (x : Option (Exit × Tr Value × PH)) : PH := match x with
  | some (_, _, H) => H
  | none => PH0
theorem some_r {x : Option (Exit × Tr Value × PH)} (h : x.isSome = true) : x = some (rX x, rE x, rH x) := by
  cases x with
  | none => cases h
  | some q => rfl
theorem run_mono_r {P : Program} {T : Tab} {FT : Tr FE} {S : CallF} (hT : T.ok P) (hm : P.follows .mixedOrders = true) (hF : FTOk P FT) (hS : CallOk P S) {n N : Nat} {dr : Tr (List PSeg)} {c : Code} {E : Tr Value} {H : PH} (h : (Go.Proofs.Ytjlimdiimdihfaa.run FT S T n N dr c E H).isSome = true) (hok : codeOk N dr c = true) (hN : Nat.ble N trMax = true) : Mono H (rH (Go.Proofs.Ytjlimdiimdihfaa.run FT S T n N dr c E H)) := (run_sound hT hm hF hS n N dr c E H _ _ _ (some_r h) hok (ble_le hN)).1
theorem GCalls.kill {P : Program} {f : FuncId} {args : List Value} {F : List Nat} {H : Hp} {R : Value → Hp → Prop} (i : Nat) (h : GCalls P f args F (H.kill i) R) : GCalls P f args F H R := fun μ w rargs hs hv => by
  have := h μ w rargs (hs.kill i) hv
  rw [Hp.len_kill] at this
  exact this
theorem GWP.heap {P : Program} {N : Nat} {C : Ctx} {c : Code} {Q : Exit → Env → Hp → Prop} {env : Env} {H : Hp} (G : Hp) (e : H = G) (h : GWP P N C c Q env G) : GWP P N C c Q env H := by
  rw [e]
  exact h
theorem GWP.runR {P : Program} {T : Tab} {FT : Tr FE} {S : CallF} (hT : T.ok P) (hm : P.follows .mixedOrders = true) (hF : FTOk P FT) (hS : CallOk P S) {n N : Nat} {dr : Tr (List PSeg)} {c : Code} {E : Tr Value} {H : PH} (e : Exit) {C : Ctx} {env : Env} {Q : Exit → Env → Hp → Prop} (hC : CL C H)
    (h : (Go.Proofs.Ytjlimdiimdihfaa.run FT S T n N dr c E H).isSome = true) (hX : rX (Go.Proofs.Ytjlimdiimdihfaa.run FT S T n N dr c E H) = e) (hok : codeOk N dr c = true) (hN : Nat.ble N trMax = true)
    (hs : ∀ s v, E.get s = some v → env.get s = some v) (k : ∀ env', (∀ s v, (rE (Go.Proofs.Ytjlimdiimdihfaa.run FT S T n N dr c E H)).get s = some v → env'.get s = some v) → Q e env' (rH (Go.Proofs.Ytjlimdiimdihfaa.run FT S T n N dr c E H)).abs) : GWP P N C c Q env H.abs := by
  subst hX
  exact GWP.run hT hm hF hS (some_r h) hok (ble_le hN) hC hs k
theorem list3 {α : Type} {l : List α} (h : l.length = 3) : ∃ a b c, l = [a, b, c] := by
  match l, h with
  | [a, b, c], _ => exact ⟨a, b, c, rfl⟩
theorem list2 {α : Type} {l : List α} (h : l.length = 2) : ∃ a b, l = [a, b] := by
  match l, h with
  | [a, b], _ => exact ⟨a, b, rfl⟩
theorem mix : Try.prog.follows .mixedOrders = true := by kernel_rfl
end Go.Proofs.Ytjlimdiimdihfaa

/- What came in, on the ghost side: rows of bytes that are only read. Over any program. -/
namespace Go.Proofs.Ytjlimdiimdihfaa
open Go.RowKit Go.ChangeShapes Go.WideShapes Go.ChangeAt

section
variable {P : Program} {w : World} {μ : Ren} {H : Hp}
theorem cell_block {b o : Nat} {u : Value} (h : w.cell? ⟨b, o, none⟩ = some u) : ∃ rs t fz, w.heap[b]? = some (Obj.cells rs t fz) ∧ rs[o]? = some u := by
  unfold World.cell? at h
  simp only at h
  split at h
  · rename_i rs t fz hb
    exact ⟨rs, t, fz, hb, h⟩
  · cases h
/-- A row of cells that is only read, at a place. -/
theorem SimH.ro (hs : SimH μ H w) (hro : ∀ i c, H.at i = some c → c.rw = false) (cs rcs : List Value) (t : TypeId) (z b off S : Nat) (hne : cs ≠ []) (hv : VRs μ cs rcs) (h1 : ∀ v ∈ cs, v.oneCell' = true) (hr : ∀ j u, rcs[j]? = some u → w.cell? ⟨b, off + j, none⟩ = some u) : SimH (μ.upd H.length ⟨b, off, S, z⟩) (H.push ⟨t, z, cs, false⟩) w ∧ b < w.heap.size := by
  have he := hs.fresh ⟨b, off, S, z⟩
  obtain ⟨c0, cs0, rfl⟩ : ∃ c l, cs = c :: l := by cases cs with
    | nil => exact absurd rfl hne
    | cons c l => exact ⟨c, l, rfl⟩
  obtain ⟨u0, hu0, _⟩ := hv.get 0 c0 rfl
  obtain ⟨rs, bt, fz, hb, _⟩ := cell_block (hr 0 u0 hu0)
  have hlt : b < w.heap.size := real_lt hb
  have key : ∀ j c, (H.push ⟨t, z, c0 :: cs0, false⟩).at j = some c → (j < H.length ∧ H.at j = some c) ∨ (j = H.length ∧ c = ⟨t, z, c0 :: cs0, false⟩) := fun j c hc => by
    have hlt := Hp.at_lt hc
    rw [Hp.len_push] at hlt
    rcases Nat.lt_or_ge j H.length with h | h
    · rw [Hp.at_push_lt h] at hc
      exact .inl ⟨h, hc⟩
    · obtain rfl : j = H.length := by omega
      rw [Hp.at_push_eq] at hc
      injection hc with hc
      exact .inr ⟨rfl, hc.symm⟩
  refine ⟨⟨fun j c hc => ?_, fun j M hM => ?_, fun j k c c' M M' hj hk hM hM' hgg hrw => ?_⟩, hlt⟩
  · rcases key j c hc with ⟨hj, hc⟩ | ⟨rfl, rfl⟩
    · obtain ⟨M, rs', t', fz', q1, q2, q3, q4, q5, q6, q7⟩ := hs.dom j c hc
      exact ⟨M, rs', t', fz', he j M q1, q2, q3, q4, q5, q6.mono he, q7⟩
    · refine ⟨⟨b, off, S, z⟩, rs, bt, fz, Ren.upd_eq _ _ _, rfl, hb, (fun h => by cases h), (fun h => by cases h), fun k v hk => ?_, h1⟩
      obtain ⟨v', e1, e2⟩ := hv.get k v hk
      obtain ⟨rs2, bt2, fz2, hb2, hg2⟩ := cell_block (hr k v' e1)
      rw [hb] at hb2
      injection hb2 with hb2
      injection hb2 with hb2
      subst hb2
      exact ⟨v', hg2, e2.mono he⟩
  · rw [Hp.len_push]
    by_cases e : j = H.length
    · subst e
      rw [Ren.upd_eq] at hM
      injection hM with hM
      subst hM
      exact ⟨by omega, hlt⟩
    · rw [Ren.upd_ne _ _ e] at hM
      obtain ⟨q1, q2⟩ := hs.len j M hM
      exact ⟨by omega, q2⟩
  · have no : ∀ j c, (H.push ⟨t, z, c0 :: cs0, false⟩).at j = some c → c.rw = false := fun j c hc => by
      rcases key j c hc with ⟨_, hc⟩ | ⟨_, rfl⟩
      · exact hro j c hc
      · rfl
    rcases hrw with h | h
    · rw [no j c hj] at h; cases h
    · rw [no k c' hk] at h; cases h
/-- A ghost heap in which nothing may be written. -/
def Ro (H : Hp) : Prop := ∀ i c, H.at i = some c → c.rw = false
theorem Ro.push (h : Ro H) (t z : Nat) (cs : List Value) : Ro (H.push ⟨t, z, cs, false⟩) := fun i c hc => by
  have hlt := Hp.at_lt hc
  rw [Hp.len_push] at hlt
  rcases Nat.lt_or_ge i H.length with q | q
  · rw [Hp.at_push_lt q] at hc
    exact h i c hc
  · obtain rfl : i = H.length := by omega
    rw [Hp.at_push_eq] at hc
    injection hc with hc
    rw [← hc]
theorem Ro.nil : Ro [] := fun i c hc => by cases i <;> cases hc
theorem ro_ext (t z : Nat) (cs : List Value) : HExt [] H (H.push ⟨t, z, cs, false⟩) := (HExt.refl _ _).push
/-- A row of no cells, wherever. -/
theorem SimH.roE (hs : SimH μ H w) (hro : Ro H) (t z : Nat) {g : Nat} {rs : Array Value} {bt : TypeId} {fz : Nat × Nat} (hb : w.heap[g]? = some (.cells rs bt fz)) : SimH (μ.upd H.length ⟨g, 0, 0, z⟩) (H.push ⟨t, z, [], false⟩) w := by
  have he := hs.fresh ⟨g, 0, 0, z⟩
  have key : ∀ j c, (H.push ⟨t, z, [], false⟩).at j = some c → (j < H.length ∧ H.at j = some c) ∨ (j = H.length ∧ c = ⟨t, z, [], false⟩) := fun j c hc => by
    have hlt := Hp.at_lt hc
    rw [Hp.len_push] at hlt
    rcases Nat.lt_or_ge j H.length with h | h
    · rw [Hp.at_push_lt h] at hc
      exact .inl ⟨h, hc⟩
    · obtain rfl : j = H.length := by omega
      rw [Hp.at_push_eq] at hc
      injection hc with hc
      exact .inr ⟨rfl, hc.symm⟩
  have hlt : g < w.heap.size := real_lt hb
  refine ⟨fun j c hc => ?_, fun j M hM => ?_, fun j k c c' M M' hj hk hM hM' hgg hrw => ?_⟩
  · rcases key j c hc with ⟨hj, hc⟩ | ⟨rfl, rfl⟩
    · obtain ⟨M, rs', t', fz', q1, q2, q3, q4, q5, q6, q7⟩ := hs.dom j c hc
      exact ⟨M, rs', t', fz', he j M q1, q2, q3, q4, q5, q6.mono he, q7⟩
    · exact ⟨⟨g, 0, 0, z⟩, rs, bt, fz, Ren.upd_eq _ _ _, rfl, hb, (fun h => by cases h), (fun h => by cases h), (fun k v hk => by cases hk), (fun v hv => by cases hv)⟩
  · rw [Hp.len_push]
    by_cases e : j = H.length
    · subst e
      rw [Ren.upd_eq] at hM
      injection hM with hM
      subst hM
      exact ⟨by omega, hlt⟩
    · rw [Ren.upd_ne _ _ e] at hM
      obtain ⟨q1, q2⟩ := hs.len j M hM
      exact ⟨by omega, q2⟩
  · have hr := hro.push t z []
    rcases hrw with h | h
    · rw [hr j c hj] at h; cases h
    · rw [hr k c' hk] at h; cases h
/-- A slice of bytes that came in. -/
theorem SimH.bytes (hs : SimH μ H w) (hro : Ro H) (h0 : ∃ (g : Nat) (rs : Array Value) (t : TypeId) (fz : Nat × Nat), w.heap[g]? = some (Obj.cells rs t fz)) {A : Option Addr} {n c : Nat} {l : List UInt8} (hn : n ≤ c) (hm : c ≤ maxLen) (hA : A = none → n = 0 ∧ c = 0) (hr : Rd w w.heap.size A (vb l)) (hl : l.length = c) :
    ∃ μ' H' p, SimH μ' H' w ∧ Ro H' ∧ Ext' μ μ' ∧ HExt [] H H' ∧ BS H' (.slice p n c) (l.take n) ∧ VR μ' (.slice p n c) (.slice A n c) := by
  have hcap : c < capU := by unfold maxLen at hm; unfold capU; omega
  cases A with
  | none =>
    obtain ⟨rfl, rfl⟩ := hA rfl
    exact ⟨μ, H, none, hs, hro, Ext'.refl μ, HExt.refl _ _, .none, .sl0⟩
  | some a =>
    cases l with
    | nil =>
      obtain rfl : c = 0 := hl.symm
      obtain rfl : n = 0 := by omega
      obtain ⟨g, rs, t, fz, hg⟩ := h0
      have he := hs.fresh ⟨g, 0, 0, 1⟩
      refine ⟨_, _, some ⟨H.length, 0, none⟩, hs.roE hro 0 1 hg, hro.push 0 1 [], he, (HExt.refl _ _).push, ?_, .sl (L := ⟨g, 0, 0, 1⟩) (Ren.upd_eq _ _ _) (Nat.le_refl _) hm (fun _ => rfl) (fun h => by omega) (fun h => by omega)⟩
      exact .some (Hp.at_push_id rfl) rfl rfl (Nat.le_refl _) rfl
    | cons x l =>
      obtain ⟨b, off, e, hb, _⟩ := hr 0 (.int .u8 (x.toNat : Int)) rfl
      injection e with e
      subst e
      obtain ⟨h1, h2⟩ := hs.ro hro (vb (x :: l)) (vb (x :: l)) 0 1 b off 0 (by simp [vb]) (VRs.plain (vb_plain _)) (fun v hv => List.all_eq_true.1 (all_vb (x :: l)) v hv) (fun j u hu => by
        obtain ⟨b2, off2, e2, _, hc⟩ := hr j u hu
        injection e2 with e2
        injection e2 with e3 e4
        subst e3 e4
        exact hc)
      refine ⟨_, _, some ⟨H.length, 0, none⟩, h1, hro.push _ _ _, hs.fresh _, (HExt.refl _ _).push, ?_, .sl (L := ⟨b, off, 0, 1⟩) (Ren.upd_eq _ _ _) hn hm (fun _ => rfl) (fun h => by omega) (fun _ => rfl)⟩
      exact .some (Hp.at_push_id rfl) (by rw [List.drop_zero, vb_take]) (by rw [List.length_take]; omega) (by rw [vb_length]; omega) (allU8_vb _)
theorem shaped_cells (hs : w.ShapedOpen P) (hk : (match (begin P (fun _ _ => 0) default).world.heap[P.globals.size]? with | some (Obj.cells _ _ _) => true | _ => false) = true) : ∃ (g : Nat) (rs : Array Value) (t : TypeId) (fz : Nat × Nat), w.heap[g]? = some (Obj.cells rs t fz) := by
  split at hk
  · rename_i rs t fz hb
    have hlt : P.globals.size < (begin P (fun _ _ => 0) default).world.heap.size := (Array.getElem?_eq_some_iff.1 hb).1
    obtain ⟨o, o0, h1, h2, h3⟩ := hs.2 P.globals.size (Nat.le_refl _) hlt
    rw [hb] at h2
    injection h2 with h2
    subst h2
    rw [Nat.sub_self] at h3
    have h3 : o = .cells rs t fz := by simpa [World.looseAt] using h3
    subst h3
    exact ⟨_, _, _, _, h1⟩
  · cases hk
/-- A call met in the real world. -/
theorem GCalls.enter {f : FuncId} {args : List Value} {R : Value → Prop} (h : GCalls P f args [] H (fun u _ => R u)) (hs : SimH μ H w) {rargs : Array Value} (hv : VRs μ args rargs.toList) (hp : ∀ v, R v → plainB v = true) : Calls P f rargs w (fun e w' => ∃ v, e = .returned v ∧ R v ∧ Below w.heap.size w w') := by
  refine (h μ w rargs hs hv).mono ?_
  rintro e w' ⟨v, rv, H', μ', rfl, k2, k3, _, _, k6, _⟩
  have hi : img μ [] = [] := rfl
  rw [hi] at k6
  obtain rfl := k3.plain_eq (hp v k2)
  exact ⟨rv, rfl, k2, k6.below (fun g hg => by cases hg) (Nat.le_refl _)⟩
end
section
variable {X : Type} {enc : TypeId × Value → X} {P : Program} {w : World}
/-- Bytes inside a struct, with the cells up to the capacity. -/
theorem open_btC {t e : TypeId} (ht : P.underlying t = some (.slice e)) (he : P.underlying e = some (.int .u8)) (hC : P.cellsOf e = 1) {fuel : Nat} {v : Value} {x : DataW X × List MemPlace} (h : DataW.trod enc P w 0 (fun _ => true) true fuel t [v] = some x) :
    ∃ (A : Option Addr) (n c : Nat) (l : List UInt8), v = .slice A n c ∧ n ≤ c ∧ c ≤ maxLen ∧ (A = none → n = 0 ∧ c = 0) ∧ Rd w w.heap.size A (vb l) ∧ l.length = c := by
  rcases open_ints ht he hC h with ⟨hv, _⟩ | ⟨a, n, c, zs, hv, _, hl, hm, hz, _, hcell, hwz⟩
  · simp only [List.cons.injEq, and_true] at hv
    subst hv
    exact ⟨none, 0, 0, [], rfl, Nat.le_refl _, by simp [maxLen], fun _ => ⟨rfl, rfl⟩, Rd.nil_ _ _ _, rfl⟩
  · simp only [List.cons.injEq, and_true] at hv
    subst hv
    have hz' : zs.length = c := by simpa using hz
    refine ⟨some a, n, c, zs.map fun x => UInt8.ofNat x.toNat, rfl, hl, hm, (fun h => by cases h), ?_, by simpa using hz'⟩
    have e : vb (zs.map fun x => UInt8.ofNat x.toNat) = vi .u8 zs := by
      simp only [vb, vi, List.map_map]
      refine List.map_congr_left fun x hx => ?_
      have hb := wf_u8 (hwz x hx)
      have h2 : (UInt8.ofNat x.toNat).toNat = x.toNat := by simp; omega
      show Value.int .u8 ((UInt8.ofNat x.toNat).toNat : Int) = _
      rw [h2, Int.toNat_of_nonneg hb.1]
    rw [e]
    intro j u hu
    have hj : j < zs.length := by
      simp only [vi, List.getElem?_map] at hu
      rcases Nat.lt_or_ge j zs.length with q | q
      · exact q
      · rw [List.getElem?_eq_none q] at hu
        cases hu
    have hc := hcell j hj
    obtain ⟨b, off, spot⟩ := a
    have hspot : spot = none := by
      have h0 := hcell 0 (by omega)
      simpa [Addr.add] using World.cell?_spot h0
    subst hspot
    rw [Addr.add_lit] at hc
    refine ⟨b, off, rfl, World.block_lt_of_cell? w _ hc, ?_⟩
    rw [hc]
    simp only [vi, List.getElem?_map] at hu
    rw [List.getD_eq_getElem?_getD]
    rw [List.getElem?_eq_getElem hj] at hu ⊢
    simpa using hu
theorem trod_cs {t fuel : Nat} {cs : List Value} (cs' : List Value) (e : cs' = cs) {x : DataW X × List MemPlace} (h : DataW.trod enc P w 0 (fun _ => true) true fuel t cs = some x) : DataW.trod enc P w 0 (fun _ => true) true fuel t cs' = some x := by
  rw [e]
  exact h
/-- A field of a struct, by its place. -/
theorem open_struct {e fuel : Nat} {fs : Array Field} {cs : List Value} {x : DataW X × List MemPlace} (he : P.underlying e = some (.struct fs)) (h : DataW.trod enc P w 0 (fun _ => true) true fuel e cs = some x) :
    cs.length = P.cellsOf e ∧ ∀ (j : Nat) (f : Field), fs[j]? = some f → ∃ m y, DataW.trod enc P w 0 (fun _ => true) true m f.type ((cs.drop f.offset).take (P.cellsOf f.type)) = some y := by
  obtain ⟨ys, n', hn', hy, hlen, hyl, hf⟩ := DataW.trod_struct he h
  refine ⟨hlen, fun j f hj => ?_⟩
  have hjl : j < fs.size := (Array.getElem?_eq_some_iff.1 hj).1
  have h1 := hf j f hj
  have hys : ys[j]? = some (ys[j]'(by omega)) := List.getElem?_eq_getElem (by omega)
  exact ⟨_, _, h1.trans hys⟩
end
end Go.Proofs.Ytjlimdiimdihfaa

/- Records, alike or not: the law. -/
namespace Go.Proofs.Ytjlimdiimdihfaa
open Go.RowKit Go.ChangeShapes Go.WideShapes Go.ChangeAt

theorem lives12 : comesTo ft noS tab 100000 12 [] (.bool true) = true := by kernel_rfl
set_option maxHeartbeats 4000000 in
set_option maxRecDepth 100000 in
set_option linter.unusedSimpArgs false in
theorem g_lives12 (H : Hp) : GCalls Try.prog 12 [] [] H (fun v H' => v = .bool true ∧ H' = H) := comesTo_any tab_is mix ft_ok (noS_ok _) lives12 H
set_option maxHeartbeats 4000000 in
set_option maxRecDepth 100000 in
set_option linter.unusedSimpArgs false in
theorem g_recordSame (H : Hp) (r q : RecS) (p1 p2 : Option Addr) (m n cm cn : Nat) (hL : BS H (.slice p1 m cm) r.blocks) (hM : BS H (.slice p2 n cn) q.blocks) :
    GCalls Try.prog 6 [.agg #[.int .u8 r.kind, .int .i64 r.id, .int .i64 r.base, .int .i64 r.fr, .int .i64 r.til, .slice p1 m cm, .int .i64 r.count, .int .u64 r.len, .int .u64 r.sum], .agg #[.int .u8 q.kind, .int .i64 q.id, .int .i64 q.base, .int .i64 q.fr, .int .i64 q.til, .slice p2 n cn, .int .i64 q.count, .int .u64 q.len, .int .u64 q.sum]] [] H fun v _ => v = .bool true := by
  refine GCalls.body tab_is Try.func6 rfl Try.results6 Try.ntmps6 (by simp) ?_ ?_
  · first | (intro _ h; cases h; done) | (simp; done) | (simp; omega) | (intro i hi; simp at hi; rcases hi with rfl | rfl <;> omega) | (intro i hi; simp at hi; rcases hi with rfl | rfl | rfl <;> omega)
  focus
    refine GWP.seq ?_
    refine GWP.region ?_
    focus
      refine GOps.w1 rfl rfl rfl rfl (gop_box' (id := ?_) ?_ rfl rfl rfl) ?_
      rotate_left 1
      · rfl
    focus
      refine GOps.w1 rfl rfl rfl rfl (gop_box' (id := ?_) ?_ rfl rfl rfl) ?_
      rotate_left 1
      · simp; rfl
    refine GOps.r rfl rfl rfl rfl (grd_assign rfl rfl) ?_
    refine GOps.nil ?_
    refine GWP.seq ?_
    refine GWP.seq ?_
    refine GWP.region ?_
    refine GOps.w1 rfl rfl rfl rfl (gop_call0 (f := 12) rfl Try.call12 ?_ (g_lives12 _)) ?_
    · intro _ h; cases h; done
    refine GOps.r rfl rfl rfl rfl (grd_not rfl rfl) ?_
    refine GOps.nil ?_
    refine GWP.cond_f rfl ?_ ?_
    · simp; done
    refine GWP.skip ?_
    refine GWP.seq ?_
    refine GWP.draw [.reads [0, 1, 3, 5], .write 2, .write 4, .write 6, .reads [7, 8, 9, 10, 11], .write 12, .reads [13, 14]] false [List.length H + 1, List.length H] (by kernel_rfl) (by kernel_rfl) (by kernel_rfl) (by kernel_rfl) ?_ ?_
    · simp; omega
    refine GPcs.reads (by simp only [List.filterMap_cons, List.filterMap_nil, List.getElem?_toArray, List.getElem?_cons_succ, List.getElem?_cons_zero]; rfl) ?_
    focus
      refine GQ.r rfl rfl rfl rfl (grd_loadNK (b := ?_) (cs := ?_) tab_is rfl rfl rfl rfl ?_ ?_ ?_) ?_ ?_
      rotate_left 2
      refine (Hp.at_push_lt ?_).trans ?_
      · simp; done
      · exact Hp.at_push_eq
      · exact Nat.le_of_ble_eq_true rfl
      · simp [Value.cells]; rfl
      · refine .inr ?_; simp
    focus
      refine GQ.r rfl rfl rfl rfl (grd_loadNK (b := ?_) (cs := ?_) tab_is rfl rfl rfl rfl ?_ ?_ ?_) ?_ ?_
      rotate_left 2
      refine Hp.at_push_id ?_
      · simp; done
      · exact Nat.le_of_ble_eq_true rfl
      · simp [Value.cells]; rfl
      · refine .inr ?_; simp
    focus
      refine GQ.r rfl rfl rfl rfl (grd_loadNK (b := ?_) (cs := ?_) tab_is rfl rfl rfl rfl ?_ ?_ ?_) ?_ ?_
      rotate_left 2
      refine (Hp.at_push_lt ?_).trans ?_
      · simp; done
      · exact Hp.at_push_eq
      · exact Nat.le_of_ble_eq_true rfl
      · simp [Value.cells]; rfl
      · refine .inr ?_; simp
    focus
      refine GQ.r rfl rfl rfl rfl (grd_loadNK (b := ?_) (cs := ?_) tab_is rfl rfl rfl rfl ?_ ?_ ?_) ?_ ?_
      rotate_left 2
      refine Hp.at_push_id ?_
      · simp; done
      · exact Nat.le_of_ble_eq_true rfl
      · simp [Value.cells]; rfl
      · refine .inr ?_; simp
    refine GQ.nil ?_
    refine GPcs.write false [List.length H + 1, List.length H] rfl rfl ?_ rfl rfl (gopf_call rfl Try.call19 rfl ?_ (g_rsame _ _ _ _ _ _ _ _ _ ?_ ?_)) rfl ?_ ?_ ?_ ?_
    · with_reducible rfl
    · intro _ h; cases h; done
    refine BS.ext (by assumption) ?_
    refine HExt.push ?_
    refine HExt.push ?_
    · exact HExt.refl _ _
    refine BS.ext (by assumption) ?_
    refine HExt.push ?_
    refine HExt.push ?_
    · exact HExt.refl _ _
    · intro _ h; cases h; done
    focus
      refine List.forall_mem_cons.2 ⟨⟨⟨?_, ?_⟩, ?_⟩, ?_⟩
      rotate_left 1
      refine Hp.at_push_id ?_
      · simp; done
      · intro h; cases h; done
      focus
        refine List.forall_mem_cons.2 ⟨⟨⟨?_, ?_⟩, ?_⟩, ?_⟩
        rotate_left 1
        refine (Hp.at_push_lt ?_).trans ?_
        · simp; done
        · exact Hp.at_push_eq
        · intro h; cases h; done
        · intro _ h; cases h; done
    · simp; done
    rintro _ _ ⟨rfl, xa1⟩
    have xa1l := HExt.len xa1; try simp at xa1l
    refine ⟨?_, ?_⟩
    · simp; omega
    refine GPcs.write false [List.length H + 1, List.length H] rfl rfl ?_ rfl rfl (gopf_call rfl Try.call13 rfl ?_ (g_rplain _ _ _ _ _ ?_)) rfl ?_ ?_ ?_ ?_
    · with_reducible rfl
    · intro _ h; cases h; done
    refine BS.ext (by assumption) ?_
    refine HExt.tr ?_ (by assumption) ?_
    refine HExt.push ?_
    refine HExt.push ?_
    · exact HExt.refl _ _
    · intro _ h; cases h; done
    · intro _ h; cases h; done
    focus
      refine List.forall_mem_cons.2 ⟨⟨⟨?_, ?_⟩, ?_⟩, ?_⟩
      rotate_left 1
      refine (HExt.eq (by assumption) _ ?_ ?_).trans ?_
      · simp; done
      · intro h; cases h; done
      refine Hp.at_push_id ?_
      · simp; done
      · intro h; cases h; done
      focus
        refine List.forall_mem_cons.2 ⟨⟨⟨?_, ?_⟩, ?_⟩, ?_⟩
        rotate_left 1
        refine (HExt.eq (by assumption) _ ?_ ?_).trans ?_
        · simp; omega
        · intro h; cases h; done
        refine (Hp.at_push_lt ?_).trans ?_
        · simp; done
        · exact Hp.at_push_eq
        · intro h; cases h; done
        · intro _ h; cases h; done
    · simp; done
    rintro _ _ ⟨rfl, xa2⟩
    have xa2l := HExt.len xa2; try simp at xa2l
    refine ⟨?_, ?_⟩
    · simp; omega
    refine GPcs.write false [List.length H + 1, List.length H] rfl rfl ?_ rfl rfl (gopf_call rfl Try.call13 rfl ?_ (g_rplain _ _ _ _ _ ?_)) rfl ?_ ?_ ?_ ?_
    · with_reducible rfl
    · intro _ h; cases h; done
    refine BS.ext (by assumption) ?_
    refine HExt.tr ?_ (by assumption) ?_
    refine HExt.tr ?_ (by assumption) ?_
    refine HExt.push ?_
    refine HExt.push ?_
    · exact HExt.refl _ _
    · intro _ h; cases h; done
    · intro _ h; cases h; done
    · intro _ h; cases h; done
    focus
      refine List.forall_mem_cons.2 ⟨⟨⟨?_, ?_⟩, ?_⟩, ?_⟩
      rotate_left 1
      refine (HExt.eq (by assumption) _ ?_ ?_).trans ?_
      · omega
      · intro h; cases h; done
      refine (HExt.eq (by assumption) _ ?_ ?_).trans ?_
      · simp; done
      · intro h; cases h; done
      refine Hp.at_push_id ?_
      · simp; done
      · intro h; cases h; done
      focus
        refine List.forall_mem_cons.2 ⟨⟨⟨?_, ?_⟩, ?_⟩, ?_⟩
        rotate_left 1
        refine (HExt.eq (by assumption) _ ?_ ?_).trans ?_
        · omega
        · intro h; cases h; done
        refine (HExt.eq (by assumption) _ ?_ ?_).trans ?_
        · simp; omega
        · intro h; cases h; done
        refine (Hp.at_push_lt ?_).trans ?_
        · simp; done
        · exact Hp.at_push_eq
        · intro h; cases h; done
        · intro _ h; cases h; done
    · simp; done
    rintro _ _ ⟨rfl, xa3⟩
    have xa3l := HExt.len xa3; try simp at xa3l
    refine ⟨?_, ?_⟩
    · simp; omega
    refine GPcs.reads (by simp only [List.filterMap_cons, List.filterMap_nil, List.getElem?_toArray, List.getElem?_cons_succ, List.getElem?_cons_zero]; rfl) ?_
    focus
      refine GQ.r rfl rfl rfl rfl (grd_aeqlK (b := ?_) tab_is rfl rfl rfl rfl rfl rfl ?_ ?_ ?_) ?_ ?_
      rotate_left 1
      · rfl
      · rfl
      · simp [lEq, cEq]; rfl
      · refine .inr ?_; simp
    refine GQ.r rfl rfl rfl rfl (grd_beql tab_is rfl rfl rfl rfl rfl) ?_ ?_
    · refine .inr ?_; simp
    refine GQ.r rfl rfl rfl rfl (grd_move rfl rfl) ?_ ?_
    · refine .inr ?_; simp
    refine GQ.split rfl rfl (fun a4 => ?_) (fun a4 => ?_)
    simp only [beq_true, beq_false, Bool.not_true, Bool.not_false, Bool.not_eq_true', Bool.not_eq_false', decide_eq_true_eq, decide_eq_false_iff_not] at a4
    refine GQ.take rfl rfl ?_ ?_
    · exact decide_eq_true (by assumption)
    focus
      refine GQ.r rfl rfl rfl rfl (grd_loadNK (b := ?_) (cs := ?_) tab_is rfl rfl rfl rfl ?_ ?_ ?_) ?_ ?_
      rotate_left 2
      refine (HExt.eq (by assumption) _ ?_ ?_).trans ?_
      · omega
      · intro h; cases h; done
      refine (HExt.eq (by assumption) _ ?_ ?_).trans ?_
      · omega
      · intro h; cases h; done
      refine (HExt.eq (by assumption) _ ?_ ?_).trans ?_
      · simp; omega
      · intro h; cases h; done
      refine (Hp.at_push_lt ?_).trans ?_
      · simp; done
      · exact Hp.at_push_eq
      · exact Nat.le_of_ble_eq_true rfl
      · simp [Value.cells]; rfl
      · refine .inr ?_; simp
    refine GQ.take rfl rfl ?_ ?_
    · exact decide_eq_true (by assumption)
    focus
      refine GQ.r rfl rfl rfl rfl (grd_loadNK (b := ?_) (cs := ?_) tab_is rfl rfl rfl rfl ?_ ?_ ?_) ?_ ?_
      rotate_left 2
      refine (HExt.eq (by assumption) _ ?_ ?_).trans ?_
      · omega
      · intro h; cases h; done
      refine (HExt.eq (by assumption) _ ?_ ?_).trans ?_
      · omega
      · intro h; cases h; done
      refine (HExt.eq (by assumption) _ ?_ ?_).trans ?_
      · simp; omega
      · intro h; cases h; done
      refine (Hp.at_push_lt ?_).trans ?_
      · simp; done
      · exact Hp.at_push_eq
      · exact Nat.le_of_ble_eq_true rfl
      · simp [Value.cells]; rfl
      · refine .inr ?_; simp
    refine GQ.nil ?_
    refine GPcs.write true [List.length H + 1, List.length H] rfl rfl ?_ rfl rfl (gopf_call rfl Try.call19 rfl ?_ (g_rsame _ _ _ _ _ _ _ _ _ ?_ ?_)) rfl ?_ ?_ ?_ ?_
    · exact decide_eq_true (by assumption)
    · intro _ h; cases h; done
    refine BS.ext (by assumption) ?_
    refine HExt.tr ?_ (by assumption) ?_
    refine HExt.tr ?_ (by assumption) ?_
    refine HExt.tr ?_ (by assumption) ?_
    refine HExt.push ?_
    refine HExt.push ?_
    · exact HExt.refl _ _
    · intro _ h; cases h; done
    · intro _ h; cases h; done
    · intro _ h; cases h; done
    refine BS.ext (by assumption) ?_
    refine HExt.tr ?_ (by assumption) ?_
    refine HExt.tr ?_ (by assumption) ?_
    refine HExt.tr ?_ (by assumption) ?_
    refine HExt.push ?_
    refine HExt.push ?_
    · exact HExt.refl _ _
    · intro _ h; cases h; done
    · intro _ h; cases h; done
    · intro _ h; cases h; done
    · intro _ h; cases h; done
    focus
      refine List.forall_mem_cons.2 ⟨⟨⟨?_, ?_⟩, ?_⟩, ?_⟩
      rotate_left 1
      refine (HExt.eq (by assumption) _ ?_ ?_).trans ?_
      · omega
      · intro h; cases h; done
      refine (HExt.eq (by assumption) _ ?_ ?_).trans ?_
      · omega
      · intro h; cases h; done
      refine (HExt.eq (by assumption) _ ?_ ?_).trans ?_
      · simp; done
      · intro h; cases h; done
      refine Hp.at_push_id ?_
      · simp; done
      · intro h; cases h; done
      focus
        refine List.forall_mem_cons.2 ⟨⟨⟨?_, ?_⟩, ?_⟩, ?_⟩
        rotate_left 1
        refine (HExt.eq (by assumption) _ ?_ ?_).trans ?_
        · omega
        · intro h; cases h; done
        refine (HExt.eq (by assumption) _ ?_ ?_).trans ?_
        · omega
        · intro h; cases h; done
        refine (HExt.eq (by assumption) _ ?_ ?_).trans ?_
        · simp; omega
        · intro h; cases h; done
        refine (Hp.at_push_lt ?_).trans ?_
        · simp; done
        · exact Hp.at_push_eq
        · intro h; cases h; done
        · intro _ h; cases h; done
    · simp; done
    rintro _ _ ⟨rfl, xa5⟩
    have xa5l := HExt.len xa5; try simp at xa5l
    refine ⟨?_, ?_⟩
    · simp; omega
    refine GPcs.reads (by simp only [List.filterMap_cons, List.filterMap_nil, List.getElem?_toArray, List.getElem?_cons_succ, List.getElem?_cons_zero]; rfl) ?_
    refine GQ.r rfl rfl rfl rfl (grd_pick_t rfl rfl ?_ rfl) ?_ ?_
    · assumption
    · exact .inl rfl
    refine GQ.r rfl rfl rfl rfl (grd_assign rfl rfl) ?_ ?_
    · exact .inl rfl
    refine GQ.nil ?_
    refine GPcs.nil ?_
    refine GWP.ret ?_
    refine ⟨_, .one rfl, ?_⟩
    rotate_left 1
    simp only [beq_true, beq_false, Bool.not_true, Bool.not_false, Bool.not_eq_true', Bool.not_eq_false', decide_eq_true_eq, decide_eq_false_iff_not] at a4
    refine GQ.no rfl ?_ rfl rfl ?_
    · simp [*]; done
    refine GQ.no rfl ?_ rfl rfl ?_
    · simp [*]; done
    refine GQ.nil ?_
    refine GPcs.no rfl rfl ?_ rfl rfl ?_
    · simp [*]; done
    refine GPcs.reads (by simp only [List.filterMap_cons, List.filterMap_nil, List.getElem?_toArray, List.getElem?_cons_succ, List.getElem?_cons_zero]; rfl) ?_
    refine GQ.r rfl rfl rfl rfl (grd_pick_f rfl rfl ?_ rfl) ?_ ?_
    · assumption
    · refine .inr ?_; simp
    refine GQ.r rfl rfl rfl rfl (grd_assign rfl rfl) ?_ ?_
    · refine .inr ?_; simp
    refine GQ.nil ?_
    refine GPcs.nil ?_
    refine GWP.ret ?_
    refine ⟨_, .one rfl, ?_⟩
    rotate_left 1
  · exact congrArg Value.bool (RecS.same_self r)
  · rename_i a4
    rw [RecS.same_chain] at a4
    cases a4
theorem list9 {cs : List Value} (hl : cs.length = 9) : ∃ a b c d e f g h i, cs = [a, b, c, d, e, f, g, h, i] := by
  match cs, hl with
  | [a, b, c, d, e, f, g, h, i], _ => exact ⟨a, b, c, d, e, f, g, h, i, rfl⟩
set_option maxHeartbeats 4000000 in
set_option maxRecDepth 100000 in
set_option linter.unusedSimpArgs false in
/-- A record that came in. -/
theorem g_open_record {X : Type} {enc : TypeId × Value → X} {w : World} {v : Value} {d : DataW X} {p : List MemPlace} (hv : Value.okWide Try.prog w .any 0 43 v) (h : DataW.Trod enc Try.prog w 0 (fun _ => true) true 43 v d p) :
    ∃ (r : RecS) (A : Option Addr) (n c : Nat) (l : List UInt8), v = .agg #[.int .u8 r.kind, .int .i64 r.id, .int .i64 r.base, .int .i64 r.fr, .int .i64 r.til, .slice A n c, .int .i64 r.count, .int .u64 r.len, .int .u64 r.sum] ∧ r.blocks = l.take n ∧ (Lit.int .u8 r.kind).wf = true ∧ (Lit.int .i64 r.id).wf = true ∧ (Lit.int .i64 r.base).wf = true ∧ (Lit.int .i64 r.fr).wf = true ∧ (Lit.int .i64 r.til).wf = true ∧ (Lit.int .i64 r.count).wf = true ∧ (Lit.int .u64 r.len).wf = true ∧ (Lit.int .u64 r.sum).wf = true ∧
      n ≤ c ∧ c ≤ maxLen ∧ (A = none → n = 0 ∧ c = 0) ∧ Rd w w.heap.size A (vb l) ∧ l.length = c := by
  obtain ⟨cs, rfl, hsz⟩ := okWide_struct Try.underlying43 hv
  obtain ⟨fuel, hf⟩ := h
  obtain ⟨hl, hs⟩ := open_struct Try.underlying43 hf
  have hc : Try.prog.cellsOf 43 = 9 := by kernel_rfl
  rw [hc] at hl
  obtain ⟨c0, c1, c2, c3, c4, c5, c6, c7, c8, hcs⟩ := list9 hl
  simp only [Value.cells] at hs hcs
  rw [hcs] at hs
  obtain ⟨m0, y0, t0⟩ := hs 0 _ rfl
  obtain ⟨m1, y1, t1⟩ := hs 1 _ rfl
  obtain ⟨m2, y2, t2⟩ := hs 2 _ rfl
  obtain ⟨m3, y3, t3⟩ := hs 3 _ rfl
  obtain ⟨m4, y4, t4⟩ := hs 4 _ rfl
  obtain ⟨m5, y5, t5⟩ := hs 5 _ rfl
  obtain ⟨m6, y6, t6⟩ := hs 6 _ rfl
  obtain ⟨n0, q0, _, w0⟩ := DataW.trod_int Try.underlying36 (trod_cs [c0] (by kernel_rfl) t0)
  obtain ⟨n1, q1, _, w1⟩ := DataW.trod_int Try.underlying3 (trod_cs [c1] (by kernel_rfl) t1)
  obtain ⟨n2, q2, _, w2⟩ := DataW.trod_int Try.underlying3 (trod_cs [c2] (by kernel_rfl) t2)
  obtain ⟨_, s3⟩ := open_struct Try.underlying38 (trod_cs [c3, c4] (by kernel_rfl) t3)
  obtain ⟨m30, y30, t30⟩ := s3 0 _ rfl
  obtain ⟨m31, y31, t31⟩ := s3 1 _ rfl
  obtain ⟨A, n, c, l, q4, g1, g2, g3, g4, g5⟩ := open_btC Try.underlying22 Try.underlying5 (by kernel_rfl) (trod_cs [c5] (by kernel_rfl) t4)
  obtain ⟨n5, q5, _, w5⟩ := DataW.trod_int Try.underlying3 (trod_cs [c6] (by kernel_rfl) t5)
  obtain ⟨_, s6⟩ := open_struct Try.underlying41 (trod_cs [c7, c8] (by kernel_rfl) t6)
  obtain ⟨m60, y60, t60⟩ := s6 0 _ rfl
  obtain ⟨m61, y61, t61⟩ := s6 1 _ rfl
  obtain ⟨n30, q30, _, w30⟩ := DataW.trod_int Try.underlying3 (trod_cs [c3] (by kernel_rfl) t30)
  obtain ⟨n31, q31, _, w31⟩ := DataW.trod_int Try.underlying3 (trod_cs [c4] (by kernel_rfl) t31)
  obtain ⟨n60, q60, _, w60⟩ := DataW.trod_int Try.underlying39 (trod_cs [c7] (by kernel_rfl) t60)
  obtain ⟨n61, q61, _, w61⟩ := DataW.trod_int Try.underlying39 (trod_cs [c8] (by kernel_rfl) t61)
  simp only [List.cons.injEq, and_true] at q0 q1 q2 q30 q31 q5 q60 q61
  subst q0 q1 q2 q30 q31 q4 q5 q60 q61
  refine ⟨⟨n0, n1, n2, n30, n31, l.take n, n5, n60, n61⟩, A, n, c, l, ?_, rfl, w0, w1, w2, w30, w31, w5, w60, w61, g1, g2, g3, g4, g5⟩
  exact congrArg Value.agg (Array.ext' hcs)
theorem recordSame_walk (r q : RecS) (A1 A2 : Option Addr) (n1 c1 n2 c2 : Nat) (l1 l2 : List UInt8) (e1 : r.blocks = l1.take n1) (e2 : q.blocks = l2.take n2) (hn1 : n1 ≤ c1) (hm1 : c1 ≤ maxLen) (hA1 : A1 = none → n1 = 0 ∧ c1 = 0) (hl1 : l1.length = c1) (hn2 : n2 ≤ c2) (hm2 : c2 ≤ maxLen) (hA2 : A2 = none → n2 = 0 ∧ c2 = 0) (hl2 : l2.length = c2)
    (W : World) (hr1 : Rd W W.heap.size A1 (vb l1)) (hr2 : Rd W W.heap.size A2 (vb l2)) (h0 : ∃ (g : Nat) (rs : Array Value) (t : TypeId) (fz : Nat × Nat), W.heap[g]? = some (Obj.cells rs t fz)) :
    Calls Try.prog 6 #[.agg #[.int .u8 r.kind, .int .i64 r.id, .int .i64 r.base, .int .i64 r.fr, .int .i64 r.til, .slice A1 n1 c1, .int .i64 r.count, .int .u64 r.len, .int .u64 r.sum], .agg #[.int .u8 q.kind, .int .i64 q.id, .int .i64 q.base, .int .i64 q.fr, .int .i64 q.til, .slice A2 n2 c2, .int .i64 q.count, .int .u64 q.len, .int .u64 q.sum]] W fun e w' => e = .returned (.bool true) ∧ Below W.heap.size W w' := by
  obtain ⟨μ1, H1, p1, s1, ro1, x1, k1, b1, v1⟩ := (SimH.nothing W).bytes Ro.nil h0 hn1 hm1 hA1 hr1 hl1
  obtain ⟨μ2, H2, p2, s2, ro2, x2, k2, b2, v2⟩ := s1.bytes ro1 h0 hn2 hm2 hA2 hr2 hl2
  have hb1 := b1.ext k2
  have hv1 := v1.mono x2
  rw [← e1] at hb1
  rw [← e2] at b2
  refine ((g_recordSame H2 r q p1 p2 n1 n2 c1 c2 hb1 b2).enter s2 (.cons (.agg (.cons (.int _ _) (.cons (.int _ _) (.cons (.int _ _) (.cons (.int _ _) (.cons (.int _ _) (.cons hv1 (.cons (.int _ _) (.cons (.int _ _) (.cons (.int _ _) .nil)))))))))) (.cons (.agg (.cons (.int _ _) (.cons (.int _ _) (.cons (.int _ _) (.cons (.int _ _) (.cons (.int _ _) (.cons v2 (.cons (.int _ _) (.cons (.int _ _) (.cons (.int _ _) .nil)))))))))) .nil)) (R := fun u => u = .bool true) (fun v hv => by rw [hv]; rfl)).mono ?_
  rintro e w' ⟨v, rfl, rfl, q⟩
  exact ⟨rfl, q⟩
end Go.Proofs.Ytjlimdiimdihfaa
