/- Blocks of a segment as bytes: the program's. -/
import Derived.Test.YtcbngjpihcemiaaZz3
import Derived.Test.YtcbngjpihcemiaaZz1
import Derived.Test.YtcbngjpihcemiaaZz2
import Derived.Test.YtcbngjpihcemiaaZz0
import Derived.HandedShaped
namespace Go.Proofs.Ytcbngjpihcemiaa
open Go.RowKit

theorem fin_sealE {H : Hp} {p : Option Addr} {m c : Nat} {X Y : List UInt8} (s : BS H (.slice p m c) (sealL X)) (e : X = Y) : ∃ p' c', Value.slice p m c = .slice p' (Y.length + 4) c' ∧ BS H (.slice p' (Y.length + 4) c') (sealL Y) := by
  subst e
  have := s.len
  rw [sealL_length] at this
  subst this
  exact ⟨_, _, rfl, s⟩
theorem fin_sealT {H : Hp} {p : Option Addr} {m c : Nat} {X Y : List UInt8} (s : BS H (.slice p m c) (sealL X)) (e : X = Y) : ∃ p' c', Value.tuple #[.slice p m c, .int .i64 0] = .tuple #[.slice p' (Y.length + 4) c', .int .i64 0] ∧ BS H (.slice p' (Y.length + 4) c') (sealL Y) := by
  obtain ⟨p', c', h1, h2⟩ := fin_sealE s e
  exact ⟨p', c', by rw [h1], h2⟩
/-- A number that may be. -/
def okN (a : Int) : Prop := 0 ≤ a ∧ a ≤ 1073741824
instance (a : Int) : Decidable (okN a) := inferInstanceAs (Decidable (0 ≤ a ∧ a ≤ 1073741824))
set_option maxHeartbeats 4000000 in
set_option maxRecDepth 100000 in
set_option linter.unusedSimpArgs false in
theorem g_numH (H : Hp) (a b c d e : Int) : GCalls Try.prog 192 [.agg #[.int .i64 a, .int .i64 b, .int .i64 c, .int .i64 d, .int .i64 e]] [] H fun v H' => v = .tuple #[.int .u8 72, .agg #[.int .i64 a, .int .i64 b, .int .i64 c, .int .i64 d, .int .i64 e], .slice none 0 0] ∧ HExt [] H H' := by
  refine GCalls.body tab_is Try.func192 rfl Try.results192 Try.ntmps192 (by simp) ?_ ?_
  · first | (intro _ h; cases h; done) | (simp; done) | (simp; omega) | (intro i hi; simp at hi; rcases hi with rfl | rfl <;> omega) | (intro i hi; simp at hi; rcases hi with rfl | rfl | rfl <;> omega)
  focus
    refine GWP.seq ?_
    refine GWP.region ?_
    focus
      refine GOps.w1 rfl rfl rfl rfl (gop_box' (id := ?_) ?_ rfl rfl rfl) ?_
      rotate_left 1
      · rfl
    refine GOps.r rfl rfl rfl rfl (grd_assign rfl rfl) ?_
    focus
      refine GOps.w1 rfl rfl rfl rfl (gop_alloc' (id := ?_) ?_ tab_is rfl rfl ?_) ?_
      rotate_left 1
      · simp; rfl
      · decide
    refine GOps.r rfl rfl rfl rfl (grd_assign rfl rfl) ?_
    refine GOps.nil ?_
    refine GWP.seq ?_
    refine GWP.drawT 12 (by kernel_rfl) (by kernel_rfl) (by simp only [List.take_succ_cons, List.take_zero]; rfl) (by simp only [List.drop_succ_cons, List.drop_zero]; rfl) ?_
    refine GQ.r rfl rfl rfl rfl (grd_fieldAddr tab_is rfl rfl rfl rfl rfl) ?_ ?_
    · exact .inl rfl
    focus
      refine GQ.r rfl rfl rfl rfl (grd_load1 (b := ?_) (v := ?_) tab_is rfl rfl rfl rfl ?_ ?_) ?_ ?_
      rotate_left 2
      refine (Hp.at_push_lt ?_).trans ?_
      · simp; done
      · exact Hp.at_push_eq
      · rfl
      · exact .inl rfl
    refine GQ.r rfl rfl rfl rfl (grd_fieldAddr tab_is rfl rfl rfl rfl rfl) ?_ ?_
    · exact .inl rfl
    focus
      refine GQ.r rfl rfl rfl rfl (grd_load1 (b := ?_) (v := ?_) tab_is rfl rfl rfl rfl ?_ ?_) ?_ ?_
      rotate_left 2
      refine (Hp.at_push_lt ?_).trans ?_
      · simp; done
      · exact Hp.at_push_eq
      · rfl
      · exact .inl rfl
    refine GQ.r rfl rfl rfl rfl (grd_fieldAddr tab_is rfl rfl rfl rfl rfl) ?_ ?_
    · exact .inl rfl
    focus
      refine GQ.r rfl rfl rfl rfl (grd_load1 (b := ?_) (v := ?_) tab_is rfl rfl rfl rfl ?_ ?_) ?_ ?_
      rotate_left 2
      refine (Hp.at_push_lt ?_).trans ?_
      · simp; done
      · exact Hp.at_push_eq
      · rfl
      · exact .inl rfl
    refine GQ.r rfl rfl rfl rfl (grd_fieldAddr tab_is rfl rfl rfl rfl rfl) ?_ ?_
    · exact .inl rfl
    focus
      refine GQ.r rfl rfl rfl rfl (grd_load1 (b := ?_) (v := ?_) tab_is rfl rfl rfl rfl ?_ ?_) ?_ ?_
      rotate_left 2
      refine (Hp.at_push_lt ?_).trans ?_
      · simp; done
      · exact Hp.at_push_eq
      · rfl
      · exact .inl rfl
    refine GQ.r rfl rfl rfl rfl (grd_fieldAddr tab_is rfl rfl rfl rfl rfl) ?_ ?_
    · exact .inl rfl
    focus
      refine GQ.r rfl rfl rfl rfl (grd_load1 (b := ?_) (v := ?_) tab_is rfl rfl rfl rfl ?_ ?_) ?_ ?_
      rotate_left 2
      refine (Hp.at_push_lt ?_).trans ?_
      · simp; done
      · exact Hp.at_push_eq
      · rfl
      · exact .inl rfl
    focus
      refine GQ.r rfl rfl rfl rfl (grd_buildA (cs := ?_) tab_is rfl rfl rfl ?_ rfl ?_) ?_ ?_
      rotate_left 1
      · decide
      · simp [gfill, gsets, Value.cells]; rfl
      · exact .inl rfl
    refine GQ.r rfl rfl rfl rfl (grd_assign rfl rfl) ?_ ?_
    · exact .inl rfl
    refine GQ.nil ?_
    focus
      refine GOps.s rfl rfl rfl (gop_storeC (b := ?_) (cs := ?_) tab_is rfl rfl ?_ rfl rfl ?_ ?_ ?_ ?_ ?_ ?_) ?_
      rotate_left 2
      · rfl
      · rfl
      refine Hp.at_push_id ?_
      · simp; done
      · rfl
      · exact Nat.le_of_ble_eq_true rfl
      · exact .inr (by simp)
      · simp [splice, Value.cells]; rfl
    refine GOps.r rfl rfl rfl rfl (grd_assign rfl rfl) ?_
    refine GOps.nil ?_
    refine GWP.ret ?_
    focus
      refine ⟨_, (.three (.one rfl) (gres_cellNK (b := ?_) (cs := ?_) rfl rfl rfl ?_ ?_ ?_) (.one rfl)), ?_⟩
      rotate_left 2
      refine Hp.at_put_eq ?_
      · simp; done
      · exact Nat.le_of_ble_eq_true rfl
      · simp [Value.cells]; rfl
    refine ⟨?_, ?_⟩
    · rfl
    refine HExt.put ?_ ?_
    refine HExt.push ?_
    refine HExt.push ?_
    · exact HExt.refl _ _
    · exact .inr (by omega)
set_option maxHeartbeats 4000000 in
set_option maxRecDepth 100000 in
set_option linter.unusedSimpArgs false in
theorem g_numT (H : Hp) (a b c d : Int) (l : Bool) : GCalls Try.prog 193 [.agg #[.int .i64 a, .int .i64 b, .int .i64 c, .int .i64 d, .bool l]] [] H fun v H' => v = .tuple #[.int .u8 84, .agg #[.int .i64 a, .int .i64 b, .int .i64 c, .int .i64 d, .int .i64 (if l then 1 else 0)], .slice none 0 0] ∧ HExt [] H H' := by
  cases l with
  | true =>
    refine GCalls.body tab_is Try.func193 rfl Try.results193 Try.ntmps193 (by simp) ?_ ?_
    · first | (intro _ h; cases h; done) | (simp; done) | (simp; omega) | (intro i hi; simp at hi; rcases hi with rfl | rfl <;> omega) | (intro i hi; simp at hi; rcases hi with rfl | rfl | rfl <;> omega)
    focus
      refine GWP.seq ?_
      refine GWP.region ?_
      focus
        refine GOps.w1 rfl rfl rfl rfl (gop_box' (id := ?_) ?_ rfl rfl rfl) ?_
        rotate_left 1
        · rfl
      refine GOps.r rfl rfl rfl rfl (grd_assign rfl rfl) ?_
      focus
        refine GOps.w1 rfl rfl rfl rfl (gop_alloc' (id := ?_) ?_ tab_is rfl rfl ?_) ?_
        rotate_left 1
        · simp; rfl
        · decide
      refine GOps.r rfl rfl rfl rfl (grd_assign rfl rfl) ?_
      refine GOps.nil ?_
      refine GWP.seq ?_
      refine GWP.region ?_
      refine GOps.r rfl rfl rfl rfl (grd_assign rfl rfl) ?_
      refine GOps.nil ?_
      refine GWP.seq ?_
      refine GWP.seq ?_
      refine GWP.region ?_
      refine GOps.r rfl rfl rfl rfl (grd_fieldAddr tab_is rfl rfl rfl rfl rfl) ?_
      focus
        refine GOps.r rfl rfl rfl rfl (grd_load1 (b := ?_) (v := ?_) tab_is rfl rfl rfl rfl ?_ ?_) ?_
        rotate_left 2
        refine (Hp.at_push_lt ?_).trans ?_
        · simp; done
        · exact Hp.at_push_eq
        · rfl
      refine GOps.nil ?_
      refine GWP.cond_t rfl ?_ ?_
      · with_reducible rfl
      refine GWP.region ?_
      refine GOps.r rfl rfl rfl rfl (grd_assign rfl rfl) ?_
      refine GOps.nil ?_
      refine GWP.seq ?_
      refine GWP.drawT 11 (by kernel_rfl) (by kernel_rfl) (by simp only [List.take_succ_cons, List.take_zero]; rfl) (by simp only [List.drop_succ_cons, List.drop_zero]; rfl) ?_
      refine GQ.r rfl rfl rfl rfl (grd_fieldAddr tab_is rfl rfl rfl rfl rfl) ?_ ?_
      · exact .inl rfl
      focus
        refine GQ.r rfl rfl rfl rfl (grd_load1 (b := ?_) (v := ?_) tab_is rfl rfl rfl rfl ?_ ?_) ?_ ?_
        rotate_left 2
        refine (Hp.at_push_lt ?_).trans ?_
        · simp; done
        · exact Hp.at_push_eq
        · rfl
        · exact .inl rfl
      refine GQ.r rfl rfl rfl rfl (grd_fieldAddr tab_is rfl rfl rfl rfl rfl) ?_ ?_
      · exact .inl rfl
      focus
        refine GQ.r rfl rfl rfl rfl (grd_load1 (b := ?_) (v := ?_) tab_is rfl rfl rfl rfl ?_ ?_) ?_ ?_
        rotate_left 2
        refine (Hp.at_push_lt ?_).trans ?_
        · simp; done
        · exact Hp.at_push_eq
        · rfl
        · exact .inl rfl
      refine GQ.r rfl rfl rfl rfl (grd_fieldAddr tab_is rfl rfl rfl rfl rfl) ?_ ?_
      · exact .inl rfl
      focus
        refine GQ.r rfl rfl rfl rfl (grd_load1 (b := ?_) (v := ?_) tab_is rfl rfl rfl rfl ?_ ?_) ?_ ?_
        rotate_left 2
        refine (Hp.at_push_lt ?_).trans ?_
        · simp; done
        · exact Hp.at_push_eq
        · rfl
        · exact .inl rfl
      refine GQ.r rfl rfl rfl rfl (grd_fieldAddr tab_is rfl rfl rfl rfl rfl) ?_ ?_
      · exact .inl rfl
      focus
        refine GQ.r rfl rfl rfl rfl (grd_load1 (b := ?_) (v := ?_) tab_is rfl rfl rfl rfl ?_ ?_) ?_ ?_
        rotate_left 2
        refine (Hp.at_push_lt ?_).trans ?_
        · simp; done
        · exact Hp.at_push_eq
        · rfl
        · exact .inl rfl
      refine GQ.r rfl rfl rfl rfl (grd_move rfl rfl) ?_ ?_
      · exact .inl rfl
      focus
        refine GQ.r rfl rfl rfl rfl (grd_buildA (cs := ?_) tab_is rfl rfl rfl ?_ rfl ?_) ?_ ?_
        rotate_left 1
        · decide
        · simp [gfill, gsets, Value.cells]; rfl
        · exact .inl rfl
      refine GQ.r rfl rfl rfl rfl (grd_assign rfl rfl) ?_ ?_
      · exact .inl rfl
      refine GQ.nil ?_
      focus
        refine GOps.s rfl rfl rfl (gop_storeC (b := ?_) (cs := ?_) tab_is rfl rfl ?_ rfl rfl ?_ ?_ ?_ ?_ ?_ ?_) ?_
        rotate_left 2
        · rfl
        · rfl
        refine Hp.at_push_id ?_
        · simp; done
        · rfl
        · exact Nat.le_of_ble_eq_true rfl
        · exact .inr (by simp)
        · simp [splice, Value.cells]; rfl
      refine GOps.r rfl rfl rfl rfl (grd_assign rfl rfl) ?_
      refine GOps.nil ?_
      refine GWP.ret ?_
      focus
        refine ⟨_, (.three (.one rfl) (gres_cellNK (b := ?_) (cs := ?_) rfl rfl rfl ?_ ?_ ?_) (.one rfl)), ?_⟩
        rotate_left 2
        refine Hp.at_put_eq ?_
        · simp; done
        · exact Nat.le_of_ble_eq_true rfl
        · simp [Value.cells]; rfl
      refine ⟨?_, ?_⟩
      · rfl
      refine HExt.put ?_ ?_
      refine HExt.push ?_
      refine HExt.push ?_
      · exact HExt.refl _ _
      · exact .inr (by omega)
  | false =>
    refine GCalls.body tab_is Try.func193 rfl Try.results193 Try.ntmps193 (by simp) ?_ ?_
    · first | (intro _ h; cases h; done) | (simp; done) | (simp; omega) | (intro i hi; simp at hi; rcases hi with rfl | rfl <;> omega) | (intro i hi; simp at hi; rcases hi with rfl | rfl | rfl <;> omega)
    focus
      refine GWP.seq ?_
      refine GWP.region ?_
      focus
        refine GOps.w1 rfl rfl rfl rfl (gop_box' (id := ?_) ?_ rfl rfl rfl) ?_
        rotate_left 1
        · rfl
      refine GOps.r rfl rfl rfl rfl (grd_assign rfl rfl) ?_
      focus
        refine GOps.w1 rfl rfl rfl rfl (gop_alloc' (id := ?_) ?_ tab_is rfl rfl ?_) ?_
        rotate_left 1
        · simp; rfl
        · decide
      refine GOps.r rfl rfl rfl rfl (grd_assign rfl rfl) ?_
      refine GOps.nil ?_
      refine GWP.seq ?_
      refine GWP.region ?_
      refine GOps.r rfl rfl rfl rfl (grd_assign rfl rfl) ?_
      refine GOps.nil ?_
      refine GWP.seq ?_
      refine GWP.seq ?_
      refine GWP.region ?_
      refine GOps.r rfl rfl rfl rfl (grd_fieldAddr tab_is rfl rfl rfl rfl rfl) ?_
      focus
        refine GOps.r rfl rfl rfl rfl (grd_load1 (b := ?_) (v := ?_) tab_is rfl rfl rfl rfl ?_ ?_) ?_
        rotate_left 2
        refine (Hp.at_push_lt ?_).trans ?_
        · simp; done
        · exact Hp.at_push_eq
        · rfl
      refine GOps.nil ?_
      refine GWP.cond_f rfl ?_ ?_
      · with_reducible rfl
      refine GWP.skip ?_
      refine GWP.seq ?_
      refine GWP.drawT 11 (by kernel_rfl) (by kernel_rfl) (by simp only [List.take_succ_cons, List.take_zero]; rfl) (by simp only [List.drop_succ_cons, List.drop_zero]; rfl) ?_
      refine GQ.r rfl rfl rfl rfl (grd_fieldAddr tab_is rfl rfl rfl rfl rfl) ?_ ?_
      · exact .inl rfl
      focus
        refine GQ.r rfl rfl rfl rfl (grd_load1 (b := ?_) (v := ?_) tab_is rfl rfl rfl rfl ?_ ?_) ?_ ?_
        rotate_left 2
        refine (Hp.at_push_lt ?_).trans ?_
        · simp; done
        · exact Hp.at_push_eq
        · rfl
        · exact .inl rfl
      refine GQ.r rfl rfl rfl rfl (grd_fieldAddr tab_is rfl rfl rfl rfl rfl) ?_ ?_
      · exact .inl rfl
      focus
        refine GQ.r rfl rfl rfl rfl (grd_load1 (b := ?_) (v := ?_) tab_is rfl rfl rfl rfl ?_ ?_) ?_ ?_
        rotate_left 2
        refine (Hp.at_push_lt ?_).trans ?_
        · simp; done
        · exact Hp.at_push_eq
        · rfl
        · exact .inl rfl
      refine GQ.r rfl rfl rfl rfl (grd_fieldAddr tab_is rfl rfl rfl rfl rfl) ?_ ?_
      · exact .inl rfl
      focus
        refine GQ.r rfl rfl rfl rfl (grd_load1 (b := ?_) (v := ?_) tab_is rfl rfl rfl rfl ?_ ?_) ?_ ?_
        rotate_left 2
        refine (Hp.at_push_lt ?_).trans ?_
        · simp; done
        · exact Hp.at_push_eq
        · rfl
        · exact .inl rfl
      refine GQ.r rfl rfl rfl rfl (grd_fieldAddr tab_is rfl rfl rfl rfl rfl) ?_ ?_
      · exact .inl rfl
      focus
        refine GQ.r rfl rfl rfl rfl (grd_load1 (b := ?_) (v := ?_) tab_is rfl rfl rfl rfl ?_ ?_) ?_ ?_
        rotate_left 2
        refine (Hp.at_push_lt ?_).trans ?_
        · simp; done
        · exact Hp.at_push_eq
        · rfl
        · exact .inl rfl
      refine GQ.r rfl rfl rfl rfl (grd_move rfl rfl) ?_ ?_
      · exact .inl rfl
      focus
        refine GQ.r rfl rfl rfl rfl (grd_buildA (cs := ?_) tab_is rfl rfl rfl ?_ rfl ?_) ?_ ?_
        rotate_left 1
        · decide
        · simp [gfill, gsets, Value.cells]; rfl
        · exact .inl rfl
      refine GQ.r rfl rfl rfl rfl (grd_assign rfl rfl) ?_ ?_
      · exact .inl rfl
      refine GQ.nil ?_
      focus
        refine GOps.s rfl rfl rfl (gop_storeC (b := ?_) (cs := ?_) tab_is rfl rfl ?_ rfl rfl ?_ ?_ ?_ ?_ ?_ ?_) ?_
        rotate_left 2
        · rfl
        · rfl
        refine Hp.at_push_id ?_
        · simp; done
        · rfl
        · exact Nat.le_of_ble_eq_true rfl
        · exact .inr (by simp)
        · simp [splice, Value.cells]; rfl
      refine GOps.r rfl rfl rfl rfl (grd_assign rfl rfl) ?_
      refine GOps.nil ?_
      refine GWP.ret ?_
      focus
        refine ⟨_, (.three (.one rfl) (gres_cellNK (b := ?_) (cs := ?_) rfl rfl rfl ?_ ?_ ?_) (.one rfl)), ?_⟩
        rotate_left 2
        refine Hp.at_put_eq ?_
        · simp; done
        · exact Nat.le_of_ble_eq_true rfl
        · simp [Value.cells]; rfl
      refine ⟨?_, ?_⟩
      · rfl
      refine HExt.put ?_ ?_
      refine HExt.push ?_
      refine HExt.push ?_
      · exact HExt.refl _ _
      · exact .inr (by omega)
set_option maxHeartbeats 4000000 in
set_option maxRecDepth 100000 in
set_option linter.unusedSimpArgs false in
theorem g_numD (H : Hp) (p : Option Addr) (n c : Nat) : GCalls Try.prog 194 [.slice p n c] [] H fun v H' => v = .tuple #[.int .u8 68, .agg #[.int .i64 0, .int .i64 0, .int .i64 0, .int .i64 0, .int .i64 0], .slice p n c] ∧ HExt [] H H' := by
  refine GCalls.body tab_is Try.func194 rfl Try.results194 Try.ntmps194 (by simp) ?_ ?_
  · first | (intro _ h; cases h; done) | (simp; done) | (simp; omega) | (intro i hi; simp at hi; rcases hi with rfl | rfl <;> omega) | (intro i hi; simp at hi; rcases hi with rfl | rfl | rfl <;> omega)
  focus
    refine GWP.seq ?_
    refine GWP.region ?_
    refine GOps.r rfl rfl rfl rfl (grd_assign rfl rfl) ?_
    focus
      refine GOps.w1 rfl rfl rfl rfl (gop_alloc' (id := ?_) ?_ tab_is rfl rfl ?_) ?_
      rotate_left 1
      · rfl
      · decide
    refine GOps.r rfl rfl rfl rfl (grd_assign rfl rfl) ?_
    refine GOps.nil ?_
    refine GWP.seq ?_
    refine GWP.region ?_
    focus
      refine GOps.r rfl rfl rfl rfl (grd_buildA (cs := ?_) tab_is rfl rfl rfl ?_ rfl ?_) ?_
      rotate_left 1
      · decide
      · simp [gfill, gsets, Value.cells]; rfl
    refine GOps.r rfl rfl rfl rfl (grd_move rfl rfl) ?_
    refine GOps.r rfl rfl rfl rfl (grd_assign rfl rfl) ?_
    focus
      refine GOps.s rfl rfl rfl (gop_storeC (b := ?_) (cs := ?_) tab_is rfl rfl ?_ rfl rfl ?_ ?_ ?_ ?_ ?_ ?_) ?_
      rotate_left 2
      · rfl
      · rfl
      · exact Hp.at_push_eq
      · rfl
      · decide
      · exact .inr (by simp)
      · simp [splice, Value.cells]; rfl
    refine GOps.r rfl rfl rfl rfl (grd_assign rfl rfl) ?_
    refine GOps.nil ?_
    refine GWP.ret ?_
    focus
      refine ⟨_, (.three (.one rfl) (gres_cellNK (b := ?_) (cs := ?_) rfl rfl rfl ?_ ?_ ?_) (.one rfl)), ?_⟩
      rotate_left 2
      refine Hp.at_put_eq ?_
      · simp; done
      · decide
      · simp [Value.cells]; rfl
    refine ⟨?_, ?_⟩
    · rfl
    refine HExt.put ?_ ?_
    refine HExt.push ?_
    · exact HExt.refl _ _
    · exact .inr (by omega)
set_option maxHeartbeats 4000000 in
set_option maxRecDepth 100000 in
set_option linter.unusedSimpArgs false in
/-- A data block. -/
theorem g_sbytesD (H : Hp) (p : Option Addr) (n c : Nat) (L : List UInt8) (hb : BS H (.slice p n c) L) (hn : 1 ≤ n ∧ n ≤ 160) : GCalls Try.prog 49 [.iface 97 (.slice p n c)] [] H fun v H' => (∃ p' c', v = .tuple #[.slice p' ((68 :: L).length + 4) c', .int .i64 0] ∧ BS H' (.slice p' ((68 :: L).length + 4) c') (sealL (68 :: L))) ∧ HExt [] H H' := by
  have hln := hb.len
  subst hln
  have hN := fun H => g_numD H p L.length c
  have hk0 : (68 : Int) = ((68 : UInt8).toNat : Int) := rfl
  refine GCalls.body tab_is Try.func49 rfl Try.results49 Try.ntmps49 (by simp) ?_ ?_
  · first | (intro _ h; cases h; done) | (simp; done) | (simp; omega) | (intro i hi; simp at hi; rcases hi with rfl | rfl <;> omega) | (intro i hi; simp at hi; rcases hi with rfl | rfl | rfl <;> omega)
  focus
    refine GWP.seq ?_
    refine GWP.region ?_
    refine GOps.r rfl rfl rfl rfl (grd_assign rfl rfl) ?_
    refine GOps.r rfl rfl rfl rfl (grd_assign rfl rfl) ?_
    refine GOps.nil ?_
    refine GWP.seq ?_
    refine GWP.seq ?_
    refine GWP.region ?_
    refine GOps.r rfl rfl rfl rfl (grd_move rfl rfl) ?_
    refine GOps.r rfl rfl rfl rfl (grd_ieq tab_is rfl rfl rfl rfl) ?_
    refine GOps.nil ?_
    refine GWP.cond_f rfl ?_ ?_
    · with_reducible rfl
    refine GWP.skip ?_
    refine GWP.seq ?_
    refine GWP.region ?_
    refine GOps.r rfl rfl rfl rfl (grd_move rfl rfl) ?_
    refine GOps.w rfl rfl rfl rfl (gop_invoke (xs := []) rfl rfl (by kernel_rfl) Try.call194 rfl ?_ (hN _)) ?_
    · intro _ h; cases h; done
    rintro _ Hxe1 ⟨rfl, xe1⟩
    have xe1l := HExt.len xe1; try simp at xe1l
    refine GOps.r rfl rfl rfl rfl (grd_move rfl rfl) ?_
    focus
      refine GOps.r rfl rfl rfl rfl (grd_extract (v := ?_) rfl rfl ?_) ?_
      rotate_left 1
      · simp only [List.getElem?_toArray, List.getElem?_cons_zero, List.getElem?_cons_succ]; rfl
    focus
      refine GOps.r rfl rfl rfl rfl (grd_extract (v := ?_) rfl rfl ?_) ?_
      rotate_left 1
      · simp only [List.getElem?_toArray, List.getElem?_cons_zero, List.getElem?_cons_succ]; rfl
    focus
      refine GOps.r rfl rfl rfl rfl (grd_extract (v := ?_) rfl rfl ?_) ?_
      rotate_left 1
      · simp only [List.getElem?_toArray, List.getElem?_cons_zero, List.getElem?_cons_succ]; rfl
    focus
      refine GOps.w1 rfl rfl rfl rfl (gop_alloc' (id := ?_) ?_ tab_is rfl rfl ?_) ?_
      rotate_left 1
      · rfl
      · decide
    refine GOps.r rfl rfl rfl rfl (grd_assign rfl rfl) ?_
    focus
      refine GOps.s rfl rfl rfl (gop_storeC (b := ?_) (cs := ?_) tab_is rfl rfl ?_ rfl rfl ?_ ?_ ?_ ?_ ?_ ?_) ?_
      rotate_left 2
      · rfl
      · rfl
      · exact Hp.at_push_eq
      · rfl
      · decide
      · exact .inr (by omega)
      · simp [splice, Value.cells]; rfl
    refine GOps.r rfl rfl rfl rfl (grd_assign rfl rfl) ?_
    refine GOps.nil ?_
    refine GWP.seq ?_
    refine GWP.region ?_
    refine GOps.r rfl rfl rfl rfl (grd_move rfl rfl) ?_
    focus
      refine GOps.w1 rfl rfl rfl rfl (gop_lit (id := ?_) (cs := ?_) ?_ tab_is rfl rfl rfl ?_ ?_ rfl ?_ ?_) ?_
      rotate_left 2
      · simp; rfl
      · decide
      · decide
      · simp [gfill, gsets, Value.cells]; rfl
      · rfl
    refine GOps.r rfl rfl rfl rfl (grd_assign rfl rfl) ?_
    refine GOps.nil ?_
    refine GWP.seq ?_
    refine GWP.seq ?_
    refine GWP.region ?_
    refine GOps.r rfl rfl rfl rfl (grd_move rfl rfl) ?_
    refine GOps.r rfl rfl rfl rfl (grd_eql rfl rfl rfl) ?_
    refine GOps.nil ?_
    refine GWP.cond_t rfl ?_ ?_
    · exact decide_eq_true (by assumption)
    refine GWP.seq ?_
    refine GWP.seq ?_
    refine GWP.region ?_
    refine GOps.r rfl rfl rfl rfl (grd_move rfl rfl) ?_
    refine GOps.r rfl rfl rfl rfl (grd_len tab_is rfl rfl rfl rfl rfl) ?_
    refine GOps.r rfl rfl rfl rfl (grd_lss rfl rfl rfl) ?_
    refine GOps.r rfl rfl rfl rfl (grd_move rfl rfl) ?_
    refine GOps.take rfl rfl ?_ ?_
    · simp; omega
    refine GOps.r rfl rfl rfl rfl (grd_move rfl rfl) ?_
    refine GOps.take rfl rfl ?_ ?_
    · simp; omega
    refine GOps.r rfl rfl rfl rfl (grd_len tab_is rfl rfl rfl rfl rfl) ?_
    refine GOps.take rfl rfl ?_ ?_
    · simp; omega
    refine GOps.r rfl rfl rfl rfl (grd_gtr rfl rfl rfl) ?_
    refine GOps.r rfl rfl rfl rfl (grd_pick_f rfl rfl ?_ rfl) ?_
    · exact decide_eq_false (by omega)
    refine GOps.nil ?_
    refine GWP.cond_f rfl ?_ ?_
    · exact decide_eq_false (by omega)
    refine GWP.skip ?_
    refine GWP.seq ?_
    refine GWP.region ?_
    refine GOps.r rfl rfl rfl rfl (grd_move rfl rfl) ?_
    refine GOps.r rfl rfl rfl rfl (grd_move rfl rfl) ?_
    focus
      refine GOps.w1 rfl rfl rfl rfl (gop_fullB (id := ?_) (L := ?_) (M := ?_) (K := ?_) ?_ tab_is rfl rfl rfl rfl ?_ ?_ ?_ (gsrc_bs rfl rfl rfl ?_) ?_ ?_ ?_ ?_) ?_
      rotate_left 4
      · simp; rfl
      refine bs_b1 (b := ?_) (u := ?_) ?_ ?_ ?_ ?_
      rotate_left 2
      refine Hp.at_push_id ?_
      · simp; done
      · rfl
      · exact congrArg (fun z : Int => [Value.int .u8 z]) (by assumption)
      · rfl
      · decide
      · omega
      focus
        refine BS.ext (by assumption) ?_
        refine HExt.push ?_
        refine HExt.put ?_ ?_
        refine HExt.push ?_
        · assumption
        · exact .inr (by omega)
      · exact BS.len (by assumption)
      · rfl
      · omega
      · omega
    focus
      refine GOps.w rfl rfl rfl rfl (gop_call rfl Try.call104 rfl ?_ (g_seal _ _ _ _ ?_ ?_ ?_)) ?_
      · intro _ h; cases h; done
      rotate_left 1
      focus
        refine bs_row (b := ?_) ?_ ?_ ?_ ?_
        rotate_left 1
        refine Hp.at_push_id ?_
        · simp; done
        · rfl
        · rfl
        · simp; omega
      · omega
    rintro _ Hxe5 ⟨pe2, ce3, rfl, se4, xe5⟩
    have xe5l := HExt.len xe5; try simp at xe5l
    refine GOps.r rfl rfl rfl rfl (grd_assign rfl rfl) ?_
    refine GOps.r rfl rfl rfl rfl (grd_assign rfl rfl) ?_
    refine GOps.nil ?_
    refine GWP.ret ?_
    refine ⟨_, .two (.one rfl) (.one rfl), ?_⟩
    refine ⟨?_, ?_⟩
    · exact fin_sealT (by assumption) rfl
    refine HExt.tr ?_ (by assumption) ?_
    refine HExt.push ?_
    refine HExt.push ?_
    refine HExt.put ?_ ?_
    refine HExt.push ?_
    · assumption
    · exact .inr (by omega)
    · intro _ h; cases h; done
set_option maxHeartbeats 4000000 in
set_option maxRecDepth 100000 in
set_option linter.unusedSimpArgs false in
theorem g_sbytesD0 (H : Hp) (p : Option Addr) (n c : Nat) (hn : ¬ (1 ≤ n ∧ n ≤ 160)) : GCalls Try.prog 49 [.iface 97 (.slice p n c)] [] H fun v H' => v = .tuple #[.slice none 0 0, .int .i64 1] ∧ HExt [] H H' := by
  have hN := fun H => g_numD H p n c
  refine GCalls.body tab_is Try.func49 rfl Try.results49 Try.ntmps49 (by simp) ?_ ?_
  · first | (intro _ h; cases h; done) | (simp; done) | (simp; omega) | (intro i hi; simp at hi; rcases hi with rfl | rfl <;> omega) | (intro i hi; simp at hi; rcases hi with rfl | rfl | rfl <;> omega)
  focus
    refine GWP.seq ?_
    refine GWP.region ?_
    refine GOps.r rfl rfl rfl rfl (grd_assign rfl rfl) ?_
    refine GOps.r rfl rfl rfl rfl (grd_assign rfl rfl) ?_
    refine GOps.nil ?_
    refine GWP.seq ?_
    refine GWP.seq ?_
    refine GWP.region ?_
    refine GOps.r rfl rfl rfl rfl (grd_move rfl rfl) ?_
    refine GOps.r rfl rfl rfl rfl (grd_ieq tab_is rfl rfl rfl rfl) ?_
    refine GOps.nil ?_
    refine GWP.cond_f rfl ?_ ?_
    · with_reducible rfl
    refine GWP.skip ?_
    refine GWP.seq ?_
    refine GWP.region ?_
    refine GOps.r rfl rfl rfl rfl (grd_move rfl rfl) ?_
    refine GOps.w rfl rfl rfl rfl (gop_invoke (xs := []) rfl rfl (by kernel_rfl) Try.call194 rfl ?_ (hN _)) ?_
    · intro _ h; cases h; done
    rintro _ Hxf1 ⟨rfl, xf1⟩
    have xf1l := HExt.len xf1; try simp at xf1l
    refine GOps.r rfl rfl rfl rfl (grd_move rfl rfl) ?_
    focus
      refine GOps.r rfl rfl rfl rfl (grd_extract (v := ?_) rfl rfl ?_) ?_
      rotate_left 1
      · simp only [List.getElem?_toArray, List.getElem?_cons_zero, List.getElem?_cons_succ]; rfl
    focus
      refine GOps.r rfl rfl rfl rfl (grd_extract (v := ?_) rfl rfl ?_) ?_
      rotate_left 1
      · simp only [List.getElem?_toArray, List.getElem?_cons_zero, List.getElem?_cons_succ]; rfl
    focus
      refine GOps.r rfl rfl rfl rfl (grd_extract (v := ?_) rfl rfl ?_) ?_
      rotate_left 1
      · simp only [List.getElem?_toArray, List.getElem?_cons_zero, List.getElem?_cons_succ]; rfl
    focus
      refine GOps.w1 rfl rfl rfl rfl (gop_alloc' (id := ?_) ?_ tab_is rfl rfl ?_) ?_
      rotate_left 1
      · rfl
      · decide
    refine GOps.r rfl rfl rfl rfl (grd_assign rfl rfl) ?_
    focus
      refine GOps.s rfl rfl rfl (gop_storeC (b := ?_) (cs := ?_) tab_is rfl rfl ?_ rfl rfl ?_ ?_ ?_ ?_ ?_ ?_) ?_
      rotate_left 2
      · rfl
      · rfl
      · exact Hp.at_push_eq
      · rfl
      · decide
      · exact .inr (by omega)
      · simp [splice, Value.cells]; rfl
    refine GOps.r rfl rfl rfl rfl (grd_assign rfl rfl) ?_
    refine GOps.nil ?_
    refine GWP.seq ?_
    refine GWP.region ?_
    refine GOps.r rfl rfl rfl rfl (grd_move rfl rfl) ?_
    focus
      refine GOps.w1 rfl rfl rfl rfl (gop_lit (id := ?_) (cs := ?_) ?_ tab_is rfl rfl rfl ?_ ?_ rfl ?_ ?_) ?_
      rotate_left 2
      · simp; rfl
      · decide
      · decide
      · simp [gfill, gsets, Value.cells]; rfl
      · rfl
    refine GOps.r rfl rfl rfl rfl (grd_assign rfl rfl) ?_
    refine GOps.nil ?_
    refine GWP.seq ?_
    refine GWP.seq ?_
    refine GWP.region ?_
    refine GOps.r rfl rfl rfl rfl (grd_move rfl rfl) ?_
    refine GOps.r rfl rfl rfl rfl (grd_eql rfl rfl rfl) ?_
    refine GOps.nil ?_
    refine GWP.cond_t rfl ?_ ?_
    · exact decide_eq_true (by omega)
    refine GWP.seq ?_
    refine GWP.seq ?_
    refine GWP.region ?_
    refine GOps.r rfl rfl rfl rfl (grd_move rfl rfl) ?_
    refine GOps.r rfl rfl rfl rfl (grd_len tab_is rfl rfl rfl rfl rfl) ?_
    refine GOps.r rfl rfl rfl rfl (grd_lss rfl rfl rfl) ?_
    refine GOps.r rfl rfl rfl rfl (grd_move rfl rfl) ?_
    refine GOps.split rfl rfl (fun f2 => ?_) (fun f2 => ?_)
    simp only [beq_true, beq_false, Bool.not_true, Bool.not_false, Bool.not_eq_true', Bool.not_eq_false', decide_eq_true_eq, decide_eq_false_iff_not] at f2
    refine GOps.take rfl rfl ?_ ?_
    · exact beq_iff_eq.2 (decide_eq_false (by assumption))
    refine GOps.r rfl rfl rfl rfl (grd_move rfl rfl) ?_
    refine GOps.take rfl rfl ?_ ?_
    · exact beq_iff_eq.2 (decide_eq_false (by assumption))
    refine GOps.r rfl rfl rfl rfl (grd_len tab_is rfl rfl rfl rfl rfl) ?_
    refine GOps.take rfl rfl ?_ ?_
    · exact beq_iff_eq.2 (decide_eq_false (by assumption))
    refine GOps.r rfl rfl rfl rfl (grd_gtr rfl rfl rfl) ?_
    refine GOps.r rfl rfl rfl rfl (grd_pick_f rfl rfl ?_ rfl) ?_
    · exact decide_eq_false (by assumption)
    refine GOps.nil ?_
    refine GWP.cond_t rfl ?_ ?_
    · exact decide_eq_true (by omega)
    refine GWP.seq ?_
    refine GWP.region ?_
    refine GOps.r rfl rfl rfl rfl (grd_assign rfl rfl) ?_
    refine GOps.r rfl rfl rfl rfl (grd_assign rfl rfl) ?_
    refine GOps.nil ?_
    refine GWP.ret ?_
    refine ⟨_, .two (.one rfl) (.one rfl), ?_⟩
    refine ⟨?_, ?_⟩
    · rfl
    refine HExt.push ?_
    refine HExt.put ?_ ?_
    refine HExt.push ?_
    · assumption
    · exact .inr (by omega)
    simp only [beq_true, beq_false, Bool.not_true, Bool.not_false, Bool.not_eq_true', Bool.not_eq_false', decide_eq_true_eq, decide_eq_false_iff_not] at f2
    refine GOps.no rfl ?_ rfl rfl ?_
    · exact beq_eq_false_iff_ne.2 (by rw [decide_eq_true (by assumption)]; decide)
    refine GOps.no rfl ?_ rfl rfl ?_
    · exact beq_eq_false_iff_ne.2 (by rw [decide_eq_true (by assumption)]; decide)
    refine GOps.no rfl ?_ rfl rfl ?_
    · exact beq_eq_false_iff_ne.2 (by rw [decide_eq_true (by assumption)]; decide)
    refine GOps.r rfl rfl rfl rfl (grd_pick_t rfl rfl ?_ rfl) ?_
    · exact decide_eq_true (by assumption)
    refine GOps.nil ?_
    refine GWP.cond_t rfl ?_ ?_
    · with_reducible rfl
    refine GWP.seq ?_
    refine GWP.region ?_
    refine GOps.r rfl rfl rfl rfl (grd_assign rfl rfl) ?_
    refine GOps.r rfl rfl rfl rfl (grd_assign rfl rfl) ?_
    refine GOps.nil ?_
    refine GWP.ret ?_
    refine ⟨_, .two (.one rfl) (.one rfl), ?_⟩
    refine ⟨?_, ?_⟩
    · rfl
    refine HExt.push ?_
    refine HExt.put ?_ ?_
    refine HExt.push ?_
    · assumption
    · exact .inr (by omega)
set_option maxHeartbeats 4000000 in
set_option maxRecDepth 100000 in
set_option linter.unusedSimpArgs false in
theorem g_sbytes0 (H : Hp) : GCalls Try.prog 49 [.nilIface] [] H fun v H' => v = .tuple #[.slice none 0 0, .int .i64 1] ∧ HExt [] H H' := by
  refine GCalls.body tab_is Try.func49 rfl Try.results49 Try.ntmps49 (by simp) ?_ ?_
  · first | (intro _ h; cases h; done) | (simp; done) | (simp; omega) | (intro i hi; simp at hi; rcases hi with rfl | rfl <;> omega) | (intro i hi; simp at hi; rcases hi with rfl | rfl | rfl <;> omega)
  focus
    refine GWP.seq ?_
    refine GWP.region ?_
    refine GOps.r rfl rfl rfl rfl (grd_assign rfl rfl) ?_
    refine GOps.r rfl rfl rfl rfl (grd_assign rfl rfl) ?_
    refine GOps.nil ?_
    refine GWP.seq ?_
    refine GWP.seq ?_
    refine GWP.region ?_
    refine GOps.r rfl rfl rfl rfl (grd_move rfl rfl) ?_
    refine GOps.r rfl rfl rfl rfl (grd_ieq0 tab_is rfl rfl rfl rfl) ?_
    refine GOps.nil ?_
    refine GWP.cond_t rfl ?_ ?_
    · with_reducible rfl
    refine GWP.seq ?_
    refine GWP.region ?_
    refine GOps.r rfl rfl rfl rfl (grd_assign rfl rfl) ?_
    refine GOps.r rfl rfl rfl rfl (grd_assign rfl rfl) ?_
    refine GOps.nil ?_
    refine GWP.ret ?_
    refine ⟨_, .two (.one rfl) (.one rfl), ?_⟩
    refine ⟨?_, ?_⟩
    · rfl
    · exact HExt.refl _ _
def segL (k : UInt8) (a b c d e : Nat) : List UInt8 := ((((([k] ++ encs [a]) ++ encs [b]) ++ encs [c]) ++ encs [d]) ++ encs [e])
set_option maxHeartbeats 4000000 in
set_option maxRecDepth 100000 in
set_option linter.unusedSimpArgs false in
theorem g_sbytesH (H : Hp) (a b c d e : Nat) (h1 : a ≤ 1073741824) (h2 : b ≤ 1073741824) (h3 : c ≤ 1073741824) (h4 : d ≤ 1073741824) (h5 : e ≤ 1073741824) : GCalls Try.prog 49 [.iface 92 (.agg #[.int .i64 (a : Int), .int .i64 (b : Int), .int .i64 (c : Int), .int .i64 (d : Int), .int .i64 (e : Int)])] [] H fun v H' => (∃ p' c', v = .tuple #[.slice p' ((segL 72 a b c d (e)).length + 4) c', .int .i64 0] ∧ BS H' (.slice p' ((segL 72 a b c d (e)).length + 4) c') (sealL (segL 72 a b c d (e)))) ∧ HExt [] H H' := by
  have hN := fun H => g_numH H a b c d e
  have hk0 : (72 : Int) = ((72 : UInt8).toNat : Int) := rfl
  unfold segL
  have ea := enc_le a (by omega)
  have eb := enc_le b (by omega)
  have ec := enc_le c (by omega)
  have ed := enc_le d (by omega)
  have ee := enc_le e (by omega)
  have l1 : ([72] ++ encs [a]).length = 1 + (enc a).length := by simp [encs_cons, encs_nil]; omega
  have l2 : (([72] ++ encs [a]) ++ encs [b]).length = 1 + (enc a).length + (enc b).length := by simp [encs_cons, encs_nil]; omega
  have l3 : ((([72] ++ encs [a]) ++ encs [b]) ++ encs [c]).length = 1 + (enc a).length + (enc b).length + (enc c).length := by simp [encs_cons, encs_nil]; omega
  have l4 : (((([72] ++ encs [a]) ++ encs [b]) ++ encs [c]) ++ encs [d]).length = 1 + (enc a).length + (enc b).length + (enc c).length + (enc d).length := by simp [encs_cons, encs_nil]; omega
  have l5 : ((((([72] ++ encs [a]) ++ encs [b]) ++ encs [c]) ++ encs [d]) ++ encs [e]).length = 1 + (enc a).length + (enc b).length + (enc c).length + (enc d).length + (enc e).length := by simp [encs_cons, encs_nil]; omega
  have s1 : ([72] ++ encs [a]).length ≤ 70368744177664 := by omega
  have s2 : (([72] ++ encs [a]) ++ encs [b]).length ≤ 70368744177664 := by omega
  have s3 : ((([72] ++ encs [a]) ++ encs [b]) ++ encs [c]).length ≤ 70368744177664 := by omega
  have s4 : (((([72] ++ encs [a]) ++ encs [b]) ++ encs [c]) ++ encs [d]).length ≤ 70368744177664 := by omega
  have s5 : ((((([72] ++ encs [a]) ++ encs [b]) ++ encs [c]) ++ encs [d]) ++ encs [e]).length ≤ 70368744177664 := by omega
  have lt1 : ∀ n, n ≤ 1073741824 → ∀ x ∈ [n], x < 18446744073709551616 := fun n hn x hx => by
    rw [List.mem_singleton] at hx
    omega
  have hc : ∀ n : Nat, [Value.int .u64 (n : Int)] = [n].map (fun x : Nat => Value.int .u64 (x : Int)) := fun _ => rfl
  refine GCalls.body tab_is Try.func49 rfl Try.results49 Try.ntmps49 (by simp) ?_ ?_
  · first | (intro _ h; cases h; done) | (simp; done) | (simp; omega) | (intro i hi; simp at hi; rcases hi with rfl | rfl <;> omega) | (intro i hi; simp at hi; rcases hi with rfl | rfl | rfl <;> omega)
  focus
    refine GWP.seq ?_
    refine GWP.region ?_
    refine GOps.r rfl rfl rfl rfl (grd_assign rfl rfl) ?_
    refine GOps.r rfl rfl rfl rfl (grd_assign rfl rfl) ?_
    refine GOps.nil ?_
    refine GWP.seq ?_
    refine GWP.seq ?_
    refine GWP.region ?_
    refine GOps.r rfl rfl rfl rfl (grd_move rfl rfl) ?_
    refine GOps.r rfl rfl rfl rfl (grd_ieq tab_is rfl rfl rfl rfl) ?_
    refine GOps.nil ?_
    refine GWP.cond_f rfl ?_ ?_
    · with_reducible rfl
    refine GWP.skip ?_
    refine GWP.seq ?_
    refine GWP.region ?_
    refine GOps.r rfl rfl rfl rfl (grd_move rfl rfl) ?_
    refine GOps.w rfl rfl rfl rfl (gop_invoke (xs := []) rfl rfl (by kernel_rfl) Try.call192 rfl ?_ (hN _)) ?_
    · intro _ h; cases h; done
    rintro _ Hxh1 ⟨rfl, xh1⟩
    have xh1l := HExt.len xh1; try simp at xh1l
    refine GOps.r rfl rfl rfl rfl (grd_move rfl rfl) ?_
    focus
      refine GOps.r rfl rfl rfl rfl (grd_extract (v := ?_) rfl rfl ?_) ?_
      rotate_left 1
      · simp only [List.getElem?_toArray, List.getElem?_cons_zero, List.getElem?_cons_succ]; rfl
    focus
      refine GOps.r rfl rfl rfl rfl (grd_extract (v := ?_) rfl rfl ?_) ?_
      rotate_left 1
      · simp only [List.getElem?_toArray, List.getElem?_cons_zero, List.getElem?_cons_succ]; rfl
    focus
      refine GOps.r rfl rfl rfl rfl (grd_extract (v := ?_) rfl rfl ?_) ?_
      rotate_left 1
      · simp only [List.getElem?_toArray, List.getElem?_cons_zero, List.getElem?_cons_succ]; rfl
    focus
      refine GOps.w1 rfl rfl rfl rfl (gop_alloc' (id := ?_) ?_ tab_is rfl rfl ?_) ?_
      rotate_left 1
      · rfl
      · decide
    refine GOps.r rfl rfl rfl rfl (grd_assign rfl rfl) ?_
    focus
      refine GOps.s rfl rfl rfl (gop_storeC (b := ?_) (cs := ?_) tab_is rfl rfl ?_ rfl rfl ?_ ?_ ?_ ?_ ?_ ?_) ?_
      rotate_left 2
      · rfl
      · rfl
      · exact Hp.at_push_eq
      · rfl
      · exact Nat.le_of_ble_eq_true rfl
      · exact .inr (by omega)
      · simp [splice, Value.cells]; rfl
    refine GOps.r rfl rfl rfl rfl (grd_assign rfl rfl) ?_
    refine GOps.nil ?_
    refine GWP.seq ?_
    refine GWP.region ?_
    refine GOps.r rfl rfl rfl rfl (grd_move rfl rfl) ?_
    focus
      refine GOps.w1 rfl rfl rfl rfl (gop_lit (id := ?_) (cs := ?_) ?_ tab_is rfl rfl rfl ?_ ?_ rfl ?_ ?_) ?_
      rotate_left 2
      · simp; rfl
      · decide
      · decide
      · simp [gfill, gsets, Value.cells]; rfl
      · rfl
    refine GOps.r rfl rfl rfl rfl (grd_assign rfl rfl) ?_
    refine GOps.nil ?_
    refine GWP.seq ?_
    refine GWP.seq ?_
    refine GWP.region ?_
    refine GOps.r rfl rfl rfl rfl (grd_move rfl rfl) ?_
    refine GOps.r rfl rfl rfl rfl (grd_eql rfl rfl rfl) ?_
    refine GOps.nil ?_
    refine GWP.cond_f rfl ?_ ?_
    · exact decide_eq_false (by omega)
    refine GWP.skip ?_
    refine GWP.seq ?_
    refine GWP.seq ?_
    refine GWP.region ?_
    focus
      refine GOps.r rfl rfl rfl rfl (grd_loadNK (b := ?_) (cs := ?_) tab_is rfl rfl rfl rfl ?_ ?_ ?_) ?_
      rotate_left 2
      refine (Hp.at_push_lt ?_).trans ?_
      · simp; done
      refine Hp.at_put_eq ?_
      · simp; done
      · exact Nat.le_of_ble_eq_true rfl
      · simp [Value.cells]; rfl
    refine GOps.r rfl rfl rfl rfl (grd_move rfl rfl) ?_
    refine GOps.nil ?_
    refine GWP.block ?_
    refine GWP.loopN 6 ?_
    refine GRounds.step ?_
    refine GWP.seq ?_
    refine GWP.region ?_
    refine GOps.r rfl rfl rfl rfl (grd_lss rfl rfl rfl) ?_
    refine GOps.nil ?_
    refine GWP.seq ?_
    refine GWP.cond_t rfl ?_ ?_
    · exact decide_eq_true (by omega)
    refine GWP.skip ?_
    refine GWP.seq ?_
    refine GWP.block ?_
    refine GWP.seq ?_
    refine GWP.region ?_
    focus
      refine GOps.r rfl rfl rfl rfl (grd_indexV1 (v := ?_) tab_is rfl rfl rfl rfl rfl rfl rfl ?_ ?_ ?_) ?_
      rotate_left 1
      · omega
      · omega
      · simp only [List.getElem?_toArray, List.getElem?_cons_zero, List.getElem?_cons_succ]; rfl
    refine GOps.r rfl rfl rfl rfl (grd_assign rfl rfl) ?_
    refine GOps.nil ?_
    refine GWP.seq ?_
    refine GWP.seq ?_
    refine GWP.region ?_
    refine GOps.r rfl rfl rfl rfl (grd_move rfl rfl) ?_
    refine GOps.r rfl rfl rfl rfl (grd_lss rfl rfl rfl) ?_
    refine GOps.r rfl rfl rfl rfl (grd_move rfl rfl) ?_
    refine GOps.take rfl rfl ?_ ?_
    · simp; done
    refine GOps.r rfl rfl rfl rfl (grd_move rfl rfl) ?_
    refine GOps.take rfl rfl ?_ ?_
    · simp; done
    refine GOps.r rfl rfl rfl rfl (grd_gtr rfl rfl rfl) ?_
    refine GOps.r rfl rfl rfl rfl (grd_pick_f rfl rfl ?_ rfl) ?_
    · exact decide_eq_false (by omega)
    refine GOps.nil ?_
    refine GWP.cond_f rfl ?_ ?_
    · exact decide_eq_false (by omega)
    refine GWP.skip ?_
    refine GWP.region ?_
    refine GOps.r rfl rfl rfl rfl (grd_move rfl rfl) ?_
    refine GOps.r rfl rfl rfl rfl (grd_move rfl rfl) ?_
    refine GOps.r rfl rfl rfl rfl (grd_conv_in tab_is rfl rfl rfl rfl rfl ?_) ?_
    · refine wrap_u64_in ?_; omega
    focus
      refine GOps.w1 rfl rfl rfl rfl (gop_lit (id := ?_) (cs := ?_) ?_ tab_is rfl rfl rfl ?_ ?_ rfl ?_ ?_) ?_
      rotate_left 2
      · simp; rfl
      · decide
      · decide
      · simp [gfill, gsets, Value.cells]; rfl
      · rfl
    focus
      refine GOps.w rfl rfl rfl rfl (gop_call rfl Try.call105 rfl ?_ (g_put _ _ _ _ ?_ ?_ _ _ [a] ?_ ?_ ?_ ?_ ?_ (lt1 a h1) ?_ ?_ ?_)) ?_
      · intro _ h; cases h; done
      rotate_left 1
      refine bs_b1 (b := ?_) (u := ?_) ?_ ?_ ?_ ?_
      rotate_left 2
      refine (Hp.at_push_lt ?_).trans ?_
      · simp; done
      refine Hp.at_push_id ?_
      · simp; done
      · rfl
      · exact congrArg (fun z : Int => [Value.int .u8 z]) (by assumption)
      · rfl
      rotate_left 3
      refine Hp.at_push_id ?_
      · simp; done
      · exact hc a
      · exact s1
      · simp; done
      · simp; done
    rintro _ Hxh5 ⟨⟨idh2, rfl, lh3, hh4⟩, xh5⟩
    simp at lh3
    have xh5l := HExt.len xh5; try simp at xh5l
    have hh4q := Hp.at_lt hh4
    refine GOps.r rfl rfl rfl rfl (grd_assign rfl rfl) ?_
    refine GOps.nil ?_
    refine GWP.region ?_
    refine GOps.r rfl rfl rfl rfl (grd_add64 rfl rfl rfl ?_) ?_
    · omega
    refine GOps.r rfl rfl rfl rfl (grd_move rfl rfl) ?_
    refine GOps.nil ?_
    refine GRounds.step ?_
    refine GWP.seq ?_
    refine GWP.region ?_
    refine GOps.r rfl rfl rfl rfl (grd_lss rfl rfl rfl) ?_
    refine GOps.nil ?_
    refine GWP.seq ?_
    refine GWP.cond_t rfl ?_ ?_
    · exact decide_eq_true (by omega)
    refine GWP.skip ?_
    refine GWP.seq ?_
    refine GWP.block ?_
    refine GWP.seq ?_
    refine GWP.region ?_
    focus
      refine GOps.r rfl rfl rfl rfl (grd_indexV1 (v := ?_) tab_is rfl rfl rfl rfl rfl rfl rfl ?_ ?_ ?_) ?_
      rotate_left 1
      · omega
      · omega
      · simp only [List.getElem?_toArray, List.getElem?_cons_zero, List.getElem?_cons_succ]; rfl
    refine GOps.r rfl rfl rfl rfl (grd_assign rfl rfl) ?_
    refine GOps.nil ?_
    refine GWP.seq ?_
    refine GWP.seq ?_
    refine GWP.region ?_
    refine GOps.r rfl rfl rfl rfl (grd_move rfl rfl) ?_
    refine GOps.r rfl rfl rfl rfl (grd_lss rfl rfl rfl) ?_
    refine GOps.r rfl rfl rfl rfl (grd_move rfl rfl) ?_
    refine GOps.take rfl rfl ?_ ?_
    · simp; done
    refine GOps.r rfl rfl rfl rfl (grd_move rfl rfl) ?_
    refine GOps.take rfl rfl ?_ ?_
    · simp; done
    refine GOps.r rfl rfl rfl rfl (grd_gtr rfl rfl rfl) ?_
    refine GOps.r rfl rfl rfl rfl (grd_pick_f rfl rfl ?_ rfl) ?_
    · exact decide_eq_false (by omega)
    refine GOps.nil ?_
    refine GWP.cond_f rfl ?_ ?_
    · exact decide_eq_false (by omega)
    refine GWP.skip ?_
    refine GWP.region ?_
    refine GOps.r rfl rfl rfl rfl (grd_move rfl rfl) ?_
    refine GOps.r rfl rfl rfl rfl (grd_move rfl rfl) ?_
    refine GOps.r rfl rfl rfl rfl (grd_conv_in tab_is rfl rfl rfl rfl rfl ?_) ?_
    · refine wrap_u64_in ?_; omega
    focus
      refine GOps.w1 rfl rfl rfl rfl (gop_lit (id := ?_) (cs := ?_) ?_ tab_is rfl rfl rfl ?_ ?_ rfl ?_ ?_) ?_
      rotate_left 2
      · rfl
      · decide
      · decide
      · simp [gfill, gsets, Value.cells]; rfl
      · rfl
    focus
      refine GOps.w rfl rfl rfl rfl (gop_call rfl Try.call105 rfl ?_ (g_put _ _ _ _ ?_ ?_ _ _ [b] ?_ ?_ ?_ ?_ ?_ (lt1 b h2) ?_ ?_ ?_)) ?_
      · intro _ h; cases h; done
      rotate_left 1
      focus
        refine bs_pushed ?_
        refine bs_row (b := ?_) ?_ ?_ ?_ ?_
        rotate_left 1
        · assumption
        · rfl
        · rfl
        · rfl
      rotate_left 3
      · exact Hp.at_push_eq
      · exact hc b
      · exact s2
      · simp; done
      · simp; done
    rintro _ Hxh9 ⟨⟨idh6, rfl, lh7, hh8⟩, xh9⟩
    simp at lh7
    have xh9l := HExt.len xh9; try simp at xh9l
    have hh8q := Hp.at_lt hh8
    refine GOps.r rfl rfl rfl rfl (grd_assign rfl rfl) ?_
    refine GOps.nil ?_
    refine GWP.region ?_
    refine GOps.r rfl rfl rfl rfl (grd_add64 rfl rfl rfl ?_) ?_
    · omega
    refine GOps.r rfl rfl rfl rfl (grd_move rfl rfl) ?_
    refine GOps.nil ?_
    refine GRounds.step ?_
    refine GWP.seq ?_
    refine GWP.region ?_
    refine GOps.r rfl rfl rfl rfl (grd_lss rfl rfl rfl) ?_
    refine GOps.nil ?_
    refine GWP.seq ?_
    refine GWP.cond_t rfl ?_ ?_
    · exact decide_eq_true (by omega)
    refine GWP.skip ?_
    refine GWP.seq ?_
    refine GWP.block ?_
    refine GWP.seq ?_
    refine GWP.region ?_
    focus
      refine GOps.r rfl rfl rfl rfl (grd_indexV1 (v := ?_) tab_is rfl rfl rfl rfl rfl rfl rfl ?_ ?_ ?_) ?_
      rotate_left 1
      · omega
      · omega
      · simp only [List.getElem?_toArray, List.getElem?_cons_zero, List.getElem?_cons_succ]; rfl
    refine GOps.r rfl rfl rfl rfl (grd_assign rfl rfl) ?_
    refine GOps.nil ?_
    refine GWP.seq ?_
    refine GWP.seq ?_
    refine GWP.region ?_
    refine GOps.r rfl rfl rfl rfl (grd_move rfl rfl) ?_
    refine GOps.r rfl rfl rfl rfl (grd_lss rfl rfl rfl) ?_
    refine GOps.r rfl rfl rfl rfl (grd_move rfl rfl) ?_
    refine GOps.take rfl rfl ?_ ?_
    · simp; done
    refine GOps.r rfl rfl rfl rfl (grd_move rfl rfl) ?_
    refine GOps.take rfl rfl ?_ ?_
    · simp; done
    refine GOps.r rfl rfl rfl rfl (grd_gtr rfl rfl rfl) ?_
    refine GOps.r rfl rfl rfl rfl (grd_pick_f rfl rfl ?_ rfl) ?_
    · exact decide_eq_false (by omega)
    refine GOps.nil ?_
    refine GWP.cond_f rfl ?_ ?_
    · exact decide_eq_false (by omega)
    refine GWP.skip ?_
    refine GWP.region ?_
    refine GOps.r rfl rfl rfl rfl (grd_move rfl rfl) ?_
    refine GOps.r rfl rfl rfl rfl (grd_move rfl rfl) ?_
    refine GOps.r rfl rfl rfl rfl (grd_conv_in tab_is rfl rfl rfl rfl rfl ?_) ?_
    · refine wrap_u64_in ?_; omega
    focus
      refine GOps.w1 rfl rfl rfl rfl (gop_lit (id := ?_) (cs := ?_) ?_ tab_is rfl rfl rfl ?_ ?_ rfl ?_ ?_) ?_
      rotate_left 2
      · rfl
      · decide
      · decide
      · simp [gfill, gsets, Value.cells]; rfl
      · rfl
    focus
      refine GOps.w rfl rfl rfl rfl (gop_call rfl Try.call105 rfl ?_ (g_put _ _ _ _ ?_ ?_ _ _ [c] ?_ ?_ ?_ ?_ ?_ (lt1 c h3) ?_ ?_ ?_)) ?_
      · intro _ h; cases h; done
      rotate_left 1
      focus
        refine bs_pushed ?_
        refine bs_row (b := ?_) ?_ ?_ ?_ ?_
        rotate_left 1
        · assumption
        · rfl
        · rfl
        · rfl
      rotate_left 3
      · exact Hp.at_push_eq
      · exact hc c
      · exact s3
      · simp; done
      · simp; done
    rintro _ Hxh13 ⟨⟨idh10, rfl, lh11, hh12⟩, xh13⟩
    simp at lh11
    have xh13l := HExt.len xh13; try simp at xh13l
    have hh12q := Hp.at_lt hh12
    refine GOps.r rfl rfl rfl rfl (grd_assign rfl rfl) ?_
    refine GOps.nil ?_
    refine GWP.region ?_
    refine GOps.r rfl rfl rfl rfl (grd_add64 rfl rfl rfl ?_) ?_
    · omega
    refine GOps.r rfl rfl rfl rfl (grd_move rfl rfl) ?_
    refine GOps.nil ?_
    refine GRounds.step ?_
    refine GWP.seq ?_
    refine GWP.region ?_
    refine GOps.r rfl rfl rfl rfl (grd_lss rfl rfl rfl) ?_
    refine GOps.nil ?_
    refine GWP.seq ?_
    refine GWP.cond_t rfl ?_ ?_
    · exact decide_eq_true (by omega)
    refine GWP.skip ?_
    refine GWP.seq ?_
    refine GWP.block ?_
    refine GWP.seq ?_
    refine GWP.region ?_
    focus
      refine GOps.r rfl rfl rfl rfl (grd_indexV1 (v := ?_) tab_is rfl rfl rfl rfl rfl rfl rfl ?_ ?_ ?_) ?_
      rotate_left 1
      · omega
      · omega
      · simp only [List.getElem?_toArray, List.getElem?_cons_zero, List.getElem?_cons_succ]; rfl
    refine GOps.r rfl rfl rfl rfl (grd_assign rfl rfl) ?_
    refine GOps.nil ?_
    refine GWP.seq ?_
    refine GWP.seq ?_
    refine GWP.region ?_
    refine GOps.r rfl rfl rfl rfl (grd_move rfl rfl) ?_
    refine GOps.r rfl rfl rfl rfl (grd_lss rfl rfl rfl) ?_
    refine GOps.r rfl rfl rfl rfl (grd_move rfl rfl) ?_
    refine GOps.take rfl rfl ?_ ?_
    · simp; done
    refine GOps.r rfl rfl rfl rfl (grd_move rfl rfl) ?_
    refine GOps.take rfl rfl ?_ ?_
    · simp; done
    refine GOps.r rfl rfl rfl rfl (grd_gtr rfl rfl rfl) ?_
    refine GOps.r rfl rfl rfl rfl (grd_pick_f rfl rfl ?_ rfl) ?_
    · exact decide_eq_false (by omega)
    refine GOps.nil ?_
    refine GWP.cond_f rfl ?_ ?_
    · exact decide_eq_false (by omega)
    refine GWP.skip ?_
    refine GWP.region ?_
    refine GOps.r rfl rfl rfl rfl (grd_move rfl rfl) ?_
    refine GOps.r rfl rfl rfl rfl (grd_move rfl rfl) ?_
    refine GOps.r rfl rfl rfl rfl (grd_conv_in tab_is rfl rfl rfl rfl rfl ?_) ?_
    · refine wrap_u64_in ?_; omega
    focus
      refine GOps.w1 rfl rfl rfl rfl (gop_lit (id := ?_) (cs := ?_) ?_ tab_is rfl rfl rfl ?_ ?_ rfl ?_ ?_) ?_
      rotate_left 2
      · rfl
      · decide
      · decide
      · simp [gfill, gsets, Value.cells]; rfl
      · rfl
    focus
      refine GOps.w rfl rfl rfl rfl (gop_call rfl Try.call105 rfl ?_ (g_put _ _ _ _ ?_ ?_ _ _ [d] ?_ ?_ ?_ ?_ ?_ (lt1 d h4) ?_ ?_ ?_)) ?_
      · intro _ h; cases h; done
      rotate_left 1
      focus
        refine bs_pushed ?_
        refine bs_row (b := ?_) ?_ ?_ ?_ ?_
        rotate_left 1
        · assumption
        · rfl
        · rfl
        · rfl
      rotate_left 3
      · exact Hp.at_push_eq
      · exact hc d
      · exact s4
      · simp; done
      · simp; done
    rintro _ Hxh17 ⟨⟨idh14, rfl, lh15, hh16⟩, xh17⟩
    simp at lh15
    have xh17l := HExt.len xh17; try simp at xh17l
    have hh16q := Hp.at_lt hh16
    refine GOps.r rfl rfl rfl rfl (grd_assign rfl rfl) ?_
    refine GOps.nil ?_
    refine GWP.region ?_
    refine GOps.r rfl rfl rfl rfl (grd_add64 rfl rfl rfl ?_) ?_
    · omega
    refine GOps.r rfl rfl rfl rfl (grd_move rfl rfl) ?_
    refine GOps.nil ?_
    refine GRounds.step ?_
    refine GWP.seq ?_
    refine GWP.region ?_
    refine GOps.r rfl rfl rfl rfl (grd_lss rfl rfl rfl) ?_
    refine GOps.nil ?_
    refine GWP.seq ?_
    refine GWP.cond_t rfl ?_ ?_
    · exact decide_eq_true (by omega)
    refine GWP.skip ?_
    refine GWP.seq ?_
    refine GWP.block ?_
    refine GWP.seq ?_
    refine GWP.region ?_
    focus
      refine GOps.r rfl rfl rfl rfl (grd_indexV1 (v := ?_) tab_is rfl rfl rfl rfl rfl rfl rfl ?_ ?_ ?_) ?_
      rotate_left 1
      · omega
      · omega
      · simp only [List.getElem?_toArray, List.getElem?_cons_zero, List.getElem?_cons_succ]; rfl
    refine GOps.r rfl rfl rfl rfl (grd_assign rfl rfl) ?_
    refine GOps.nil ?_
    refine GWP.seq ?_
    refine GWP.seq ?_
    refine GWP.region ?_
    refine GOps.r rfl rfl rfl rfl (grd_move rfl rfl) ?_
    refine GOps.r rfl rfl rfl rfl (grd_lss rfl rfl rfl) ?_
    refine GOps.r rfl rfl rfl rfl (grd_move rfl rfl) ?_
    refine GOps.take rfl rfl ?_ ?_
    · simp; done
    refine GOps.r rfl rfl rfl rfl (grd_move rfl rfl) ?_
    refine GOps.take rfl rfl ?_ ?_
    · simp; done
    refine GOps.r rfl rfl rfl rfl (grd_gtr rfl rfl rfl) ?_
    refine GOps.r rfl rfl rfl rfl (grd_pick_f rfl rfl ?_ rfl) ?_
    · exact decide_eq_false (by omega)
    refine GOps.nil ?_
    refine GWP.cond_f rfl ?_ ?_
    · exact decide_eq_false (by omega)
    refine GWP.skip ?_
    refine GWP.region ?_
    refine GOps.r rfl rfl rfl rfl (grd_move rfl rfl) ?_
    refine GOps.r rfl rfl rfl rfl (grd_move rfl rfl) ?_
    refine GOps.r rfl rfl rfl rfl (grd_conv_in tab_is rfl rfl rfl rfl rfl ?_) ?_
    · refine wrap_u64_in ?_; omega
    focus
      refine GOps.w1 rfl rfl rfl rfl (gop_lit (id := ?_) (cs := ?_) ?_ tab_is rfl rfl rfl ?_ ?_ rfl ?_ ?_) ?_
      rotate_left 2
      · rfl
      · decide
      · decide
      · simp [gfill, gsets, Value.cells]; rfl
      · rfl
    focus
      refine GOps.w rfl rfl rfl rfl (gop_call rfl Try.call105 rfl ?_ (g_put _ _ _ _ ?_ ?_ _ _ [e] ?_ ?_ ?_ ?_ ?_ (lt1 e h5) ?_ ?_ ?_)) ?_
      · intro _ h; cases h; done
      rotate_left 1
      focus
        refine bs_pushed ?_
        refine bs_row (b := ?_) ?_ ?_ ?_ ?_
        rotate_left 1
        · assumption
        · rfl
        · rfl
        · rfl
      rotate_left 3
      · exact Hp.at_push_eq
      · exact hc e
      · exact s5
      · simp; done
      · simp; done
    rintro _ Hxh21 ⟨⟨idh18, rfl, lh19, hh20⟩, xh21⟩
    simp at lh19
    have xh21l := HExt.len xh21; try simp at xh21l
    have hh20q := Hp.at_lt hh20
    refine GOps.r rfl rfl rfl rfl (grd_assign rfl rfl) ?_
    refine GOps.nil ?_
    refine GWP.region ?_
    refine GOps.r rfl rfl rfl rfl (grd_add64 rfl rfl rfl ?_) ?_
    · omega
    refine GOps.r rfl rfl rfl rfl (grd_move rfl rfl) ?_
    refine GOps.nil ?_
    refine GRounds.step ?_
    refine GWP.seq ?_
    refine GWP.region ?_
    refine GOps.r rfl rfl rfl rfl (grd_lss rfl rfl rfl) ?_
    refine GOps.nil ?_
    refine GWP.seq ?_
    refine GWP.cond_f rfl ?_ ?_
    · exact decide_eq_false (by omega)
    refine GWP.exit ?_
    refine GWP.seq ?_
    refine GWP.region ?_
    refine GOps.r rfl rfl rfl rfl (grd_move rfl rfl) ?_
    focus
      refine GOps.w rfl rfl rfl rfl (gop_call rfl Try.call104 rfl ?_ (g_seal _ _ _ _ ?_ ?_ ?_)) ?_
      · intro _ h; cases h; done
      rotate_left 1
      focus
        refine bs_row (b := ?_) ?_ ?_ ?_ ?_
        rotate_left 1
        · assumption
        · rfl
        · rfl
        · rfl
      · omega
    rintro _ Hxh25 ⟨ph22, ch23, rfl, sh24, xh25⟩
    have xh25l := HExt.len xh25; try simp at xh25l
    refine GOps.r rfl rfl rfl rfl (grd_assign rfl rfl) ?_
    refine GOps.r rfl rfl rfl rfl (grd_assign rfl rfl) ?_
    refine GOps.nil ?_
    refine GWP.ret ?_
    refine ⟨_, .two (.one rfl) (.one rfl), ?_⟩
    refine ⟨?_, ?_⟩
    focus
      refine ⟨_, _, rfl, ?_⟩
      · assumption
    refine HExt.tr ?_ (by assumption) ?_
    refine HExt.tr ?_ (by assumption) ?_
    refine HExt.push ?_
    refine HExt.tr ?_ (by assumption) ?_
    refine HExt.push ?_
    refine HExt.tr ?_ (by assumption) ?_
    refine HExt.push ?_
    refine HExt.tr ?_ (by assumption) ?_
    refine HExt.push ?_
    refine HExt.tr ?_ (by assumption) ?_
    refine HExt.push ?_
    refine HExt.push ?_
    refine HExt.put ?_ ?_
    refine HExt.push ?_
    · assumption
    · exact .inr (by omega)
    · intro _ h; cases h; done
    · intro _ h; cases h; done
    · intro _ h; cases h; done
    · intro _ h; cases h; done
    · intro _ h; cases h; done
    · intro _ h; cases h; done
set_option maxHeartbeats 4000000 in
set_option maxRecDepth 100000 in
set_option linter.unusedSimpArgs false in
theorem g_sbytesH0 (H : Hp) (a b c d e : Int) (hr : ¬ (okN a ∧ okN b ∧ okN c ∧ okN d ∧ okN e)) : GCalls Try.prog 49 [.iface 92 (.agg #[.int .i64 a, .int .i64 b, .int .i64 c, .int .i64 d, .int .i64 e])] [] H fun v H' => v = .tuple #[.slice none 0 0, .int .i64 1] ∧ HExt [] H H' := by
  have hN := fun H => g_numH H a b c d e
  unfold okN at hr
  have hk0 : (72 : Int) = ((72 : UInt8).toNat : Int) := rfl
  have hP : ∀ (H : Hp) (p : Option Addr) (n c : Nat) (B : List UInt8) (_hb : BS H (.slice p n c) B) (_hB : B.length ≤ 100) (j cm : Nat) (t : TypeId) (rw : Bool) (cs : List Value) (_hj : H.at j = some ⟨t, 1, cs, rw⟩) (z : Int) (_hcs : cs = [.int .u64 z]) (_h0 : 0 ≤ z) (_h1 : z ≤ 1073741824), GCalls Try.prog 105 [.slice p n c, .slice (some ⟨j, 0, none⟩) 1 cm] [] H fun v H' => (∃ id B', v = .slice (some ⟨id, 0, none⟩) B'.length capU ∧ H.length ≤ id ∧ H'.at id = some ⟨5, 1, vb B', true⟩ ∧ 0 < B'.length ∧ B'.length ≤ B.length + 10) ∧ HExt [] H H' := fun H p n c B hb hB j cm t rw cs hj z hcs h0 h1 => by
    subst hcs
    obtain ⟨k, rfl⟩ : ∃ k : Nat, z = (k : Int) := ⟨z.toNat, by omega⟩
    have hl : (B ++ encs [k]).length ≤ B.length + 10 := by
      have := enc_le k (by omega)
      simp [encs_cons, encs_nil]
      omega
    have hl0 : 0 < (B ++ encs [k]).length := by
      have := enc_pos k
      simp [encs_cons, encs_nil]
      omega
    refine (g_put H p n c B hb j cm [k] t rw _ hj rfl (fun x hx => by rw [List.mem_singleton] at hx; omega) (by omega) (by simp) (by simp)).mono fun v H' h => ?_
    obtain ⟨⟨id, e1, e2, e3⟩, x⟩ := h
    exact ⟨⟨id, _, e1, e2, e3, hl0, hl⟩, x⟩
  refine GCalls.body tab_is Try.func49 rfl Try.results49 Try.ntmps49 (by simp) ?_ ?_
  · first | (intro _ h; cases h; done) | (simp; done) | (simp; omega) | (intro i hi; simp at hi; rcases hi with rfl | rfl <;> omega) | (intro i hi; simp at hi; rcases hi with rfl | rfl | rfl <;> omega)
  focus
    refine GWP.seq ?_
    refine GWP.region ?_
    refine GOps.r rfl rfl rfl rfl (grd_assign rfl rfl) ?_
    refine GOps.r rfl rfl rfl rfl (grd_assign rfl rfl) ?_
    refine GOps.nil ?_
    refine GWP.seq ?_
    refine GWP.seq ?_
    refine GWP.region ?_
    refine GOps.r rfl rfl rfl rfl (grd_move rfl rfl) ?_
    refine GOps.r rfl rfl rfl rfl (grd_ieq tab_is rfl rfl rfl rfl) ?_
    refine GOps.nil ?_
    refine GWP.cond_f rfl ?_ ?_
    · with_reducible rfl
    refine GWP.skip ?_
    refine GWP.seq ?_
    refine GWP.region ?_
    refine GOps.r rfl rfl rfl rfl (grd_move rfl rfl) ?_
    refine GOps.w rfl rfl rfl rfl (gop_invoke (xs := []) rfl rfl (by kernel_rfl) Try.call192 rfl ?_ (hN _)) ?_
    · intro _ h; cases h; done
    rintro _ Hxi1 ⟨rfl, xi1⟩
    have xi1l := HExt.len xi1; try simp at xi1l
    refine GOps.r rfl rfl rfl rfl (grd_move rfl rfl) ?_
    focus
      refine GOps.r rfl rfl rfl rfl (grd_extract (v := ?_) rfl rfl ?_) ?_
      rotate_left 1
      · simp only [List.getElem?_toArray, List.getElem?_cons_zero, List.getElem?_cons_succ]; rfl
    focus
      refine GOps.r rfl rfl rfl rfl (grd_extract (v := ?_) rfl rfl ?_) ?_
      rotate_left 1
      · simp only [List.getElem?_toArray, List.getElem?_cons_zero, List.getElem?_cons_succ]; rfl
    focus
      refine GOps.r rfl rfl rfl rfl (grd_extract (v := ?_) rfl rfl ?_) ?_
      rotate_left 1
      · simp only [List.getElem?_toArray, List.getElem?_cons_zero, List.getElem?_cons_succ]; rfl
    focus
      refine GOps.w1 rfl rfl rfl rfl (gop_alloc' (id := ?_) ?_ tab_is rfl rfl ?_) ?_
      rotate_left 1
      · rfl
      · decide
    refine GOps.r rfl rfl rfl rfl (grd_assign rfl rfl) ?_
    focus
      refine GOps.s rfl rfl rfl (gop_storeC (b := ?_) (cs := ?_) tab_is rfl rfl ?_ rfl rfl ?_ ?_ ?_ ?_ ?_ ?_) ?_
      rotate_left 2
      · rfl
      · rfl
      · exact Hp.at_push_eq
      · rfl
      · exact Nat.le_of_ble_eq_true rfl
      · exact .inr (by omega)
      · simp [splice, Value.cells]; rfl
    refine GOps.r rfl rfl rfl rfl (grd_assign rfl rfl) ?_
    refine GOps.nil ?_
    refine GWP.seq ?_
    refine GWP.region ?_
    refine GOps.r rfl rfl rfl rfl (grd_move rfl rfl) ?_
    focus
      refine GOps.w1 rfl rfl rfl rfl (gop_lit (id := ?_) (cs := ?_) ?_ tab_is rfl rfl rfl ?_ ?_ rfl ?_ ?_) ?_
      rotate_left 2
      · simp; rfl
      · decide
      · decide
      · simp [gfill, gsets, Value.cells]; rfl
      · rfl
    refine GOps.r rfl rfl rfl rfl (grd_assign rfl rfl) ?_
    refine GOps.nil ?_
    refine GWP.seq ?_
    refine GWP.seq ?_
    refine GWP.region ?_
    refine GOps.r rfl rfl rfl rfl (grd_move rfl rfl) ?_
    refine GOps.r rfl rfl rfl rfl (grd_eql rfl rfl rfl) ?_
    refine GOps.nil ?_
    refine GWP.cond_f rfl ?_ ?_
    · exact decide_eq_false (by omega)
    refine GWP.skip ?_
    refine GWP.seq ?_
    refine GWP.seq ?_
    refine GWP.region ?_
    focus
      refine GOps.r rfl rfl rfl rfl (grd_loadNK (b := ?_) (cs := ?_) tab_is rfl rfl rfl rfl ?_ ?_ ?_) ?_
      rotate_left 2
      refine (Hp.at_push_lt ?_).trans ?_
      · simp; done
      refine Hp.at_put_eq ?_
      · simp; done
      · exact Nat.le_of_ble_eq_true rfl
      · simp [Value.cells]; rfl
    refine GOps.r rfl rfl rfl rfl (grd_move rfl rfl) ?_
    refine GOps.nil ?_
    refine GWP.block ?_
    refine GWP.loopN 6 ?_
    refine GRounds.step ?_
    refine GWP.seq ?_
    refine GWP.region ?_
    refine GOps.r rfl rfl rfl rfl (grd_lss rfl rfl rfl) ?_
    refine GOps.nil ?_
    refine GWP.seq ?_
    refine GWP.cond_t rfl ?_ ?_
    · exact decide_eq_true (by omega)
    refine GWP.skip ?_
    refine GWP.seq ?_
    refine GWP.block ?_
    refine GWP.seq ?_
    refine GWP.region ?_
    focus
      refine GOps.r rfl rfl rfl rfl (grd_indexV1 (v := ?_) tab_is rfl rfl rfl rfl rfl rfl rfl ?_ ?_ ?_) ?_
      rotate_left 1
      · omega
      · omega
      · simp only [List.getElem?_toArray, List.getElem?_cons_zero, List.getElem?_cons_succ]; rfl
    refine GOps.r rfl rfl rfl rfl (grd_assign rfl rfl) ?_
    refine GOps.nil ?_
    refine GWP.seq ?_
    refine GWP.seq ?_
    refine GWP.region ?_
    refine GOps.r rfl rfl rfl rfl (grd_move rfl rfl) ?_
    refine GOps.r rfl rfl rfl rfl (grd_lss rfl rfl rfl) ?_
    refine GOps.r rfl rfl rfl rfl (grd_move rfl rfl) ?_
    refine GOps.split rfl rfl (fun i2 => ?_) (fun i2 => ?_)
    simp only [beq_true, beq_false, Bool.not_true, Bool.not_false, Bool.not_eq_true', Bool.not_eq_false', decide_eq_true_eq, decide_eq_false_iff_not] at i2
    refine GOps.take rfl rfl ?_ ?_
    · exact beq_iff_eq.2 (decide_eq_false (by assumption))
    refine GOps.r rfl rfl rfl rfl (grd_move rfl rfl) ?_
    refine GOps.take rfl rfl ?_ ?_
    · exact beq_iff_eq.2 (decide_eq_false (by assumption))
    refine GOps.r rfl rfl rfl rfl (grd_gtr rfl rfl rfl) ?_
    refine GOps.r rfl rfl rfl rfl (grd_pick_f rfl rfl ?_ rfl) ?_
    · exact decide_eq_false (by assumption)
    refine GOps.nil ?_
    refine GWP.cond rfl (fun i3 => ?_) (fun i3 => ?_)
    simp only [beq_true, beq_false, Bool.not_true, Bool.not_false, Bool.not_eq_true', Bool.not_eq_false', decide_eq_true_eq, decide_eq_false_iff_not] at i3
    refine GWP.seq ?_
    refine GWP.region ?_
    refine GOps.r rfl rfl rfl rfl (grd_assign rfl rfl) ?_
    refine GOps.r rfl rfl rfl rfl (grd_assign rfl rfl) ?_
    refine GOps.nil ?_
    refine GWP.ret ?_
    refine ⟨_, .two (.one rfl) (.one rfl), ?_⟩
    refine ⟨?_, ?_⟩
    · rfl
    refine HExt.push ?_
    refine HExt.put ?_ ?_
    refine HExt.push ?_
    · assumption
    · exact .inr (by omega)
    simp only [beq_true, beq_false, Bool.not_true, Bool.not_false, Bool.not_eq_true', Bool.not_eq_false', decide_eq_true_eq, decide_eq_false_iff_not] at i3
    refine GWP.skip ?_
    refine GWP.region ?_
    refine GOps.r rfl rfl rfl rfl (grd_move rfl rfl) ?_
    refine GOps.r rfl rfl rfl rfl (grd_move rfl rfl) ?_
    refine GOps.r rfl rfl rfl rfl (grd_conv_in tab_is rfl rfl rfl rfl rfl ?_) ?_
    · refine wrap_u64_in ?_; omega
    focus
      refine GOps.w1 rfl rfl rfl rfl (gop_lit (id := ?_) (cs := ?_) ?_ tab_is rfl rfl rfl ?_ ?_ rfl ?_ ?_) ?_
      rotate_left 2
      · simp; rfl
      · decide
      · decide
      · simp [gfill, gsets, Value.cells]; rfl
      · rfl
    focus
      refine GOps.w rfl rfl rfl rfl (gop_call rfl Try.call105 rfl ?_ (hP _ _ _ _ ?_ ?_ ?_ _ _ ?_ ?_ ?_ ?_ ?_ ?_ ?_ ?_)) ?_
      · intro _ h; cases h; done
      rotate_left 1
      refine bs_b1 (b := ?_) (u := ?_) ?_ ?_ ?_ ?_
      rotate_left 2
      refine (Hp.at_push_lt ?_).trans ?_
      · simp; done
      refine Hp.at_push_id ?_
      · simp; done
      · rfl
      · exact congrArg (fun z : Int => [Value.int .u8 z]) (by assumption)
      · rfl
      · simp; done
      rotate_left 3
      refine Hp.at_push_id ?_
      · simp; done
      rotate_left 1
      · rfl
      · omega
      · omega
    rintro _ Hxi10 ⟨⟨idi4, Bi5, rfl, li6, hi7, mi8, ni9⟩, xi10⟩
    simp at li6
    simp at ni9
    have xi10l := HExt.len xi10; try simp at xi10l
    have hi7q := Hp.at_lt hi7
    try simp only [List.length_singleton] at li6
    try simp only [List.length_singleton] at ni9
    refine GOps.r rfl rfl rfl rfl (grd_assign rfl rfl) ?_
    refine GOps.nil ?_
    refine GWP.region ?_
    refine GOps.r rfl rfl rfl rfl (grd_add64 rfl rfl rfl ?_) ?_
    · omega
    refine GOps.r rfl rfl rfl rfl (grd_move rfl rfl) ?_
    refine GOps.nil ?_
    refine GRounds.step ?_
    refine GWP.seq ?_
    refine GWP.region ?_
    refine GOps.r rfl rfl rfl rfl (grd_lss rfl rfl rfl) ?_
    refine GOps.nil ?_
    refine GWP.seq ?_
    refine GWP.cond_t rfl ?_ ?_
    · exact decide_eq_true (by omega)
    refine GWP.skip ?_
    refine GWP.seq ?_
    refine GWP.block ?_
    refine GWP.seq ?_
    refine GWP.region ?_
    focus
      refine GOps.r rfl rfl rfl rfl (grd_indexV1 (v := ?_) tab_is rfl rfl rfl rfl rfl rfl rfl ?_ ?_ ?_) ?_
      rotate_left 1
      · omega
      · omega
      · simp only [List.getElem?_toArray, List.getElem?_cons_zero, List.getElem?_cons_succ]; rfl
    refine GOps.r rfl rfl rfl rfl (grd_assign rfl rfl) ?_
    refine GOps.nil ?_
    refine GWP.seq ?_
    refine GWP.seq ?_
    refine GWP.region ?_
    refine GOps.r rfl rfl rfl rfl (grd_move rfl rfl) ?_
    refine GOps.r rfl rfl rfl rfl (grd_lss rfl rfl rfl) ?_
    refine GOps.r rfl rfl rfl rfl (grd_move rfl rfl) ?_
    refine GOps.split rfl rfl (fun i11 => ?_) (fun i11 => ?_)
    simp only [beq_true, beq_false, Bool.not_true, Bool.not_false, Bool.not_eq_true', Bool.not_eq_false', decide_eq_true_eq, decide_eq_false_iff_not] at i11
    refine GOps.take rfl rfl ?_ ?_
    · exact beq_iff_eq.2 (decide_eq_false (by assumption))
    refine GOps.r rfl rfl rfl rfl (grd_move rfl rfl) ?_
    refine GOps.take rfl rfl ?_ ?_
    · exact beq_iff_eq.2 (decide_eq_false (by assumption))
    refine GOps.r rfl rfl rfl rfl (grd_gtr rfl rfl rfl) ?_
    refine GOps.r rfl rfl rfl rfl (grd_pick_f rfl rfl ?_ rfl) ?_
    · exact decide_eq_false (by assumption)
    refine GOps.nil ?_
    refine GWP.cond rfl (fun i12 => ?_) (fun i12 => ?_)
    simp only [beq_true, beq_false, Bool.not_true, Bool.not_false, Bool.not_eq_true', Bool.not_eq_false', decide_eq_true_eq, decide_eq_false_iff_not] at i12
    refine GWP.seq ?_
    refine GWP.region ?_
    refine GOps.r rfl rfl rfl rfl (grd_assign rfl rfl) ?_
    refine GOps.r rfl rfl rfl rfl (grd_assign rfl rfl) ?_
    refine GOps.nil ?_
    refine GWP.ret ?_
    refine ⟨_, .two (.one rfl) (.one rfl), ?_⟩
    refine ⟨?_, ?_⟩
    · rfl
    refine HExt.tr ?_ (by assumption) ?_
    refine HExt.push ?_
    refine HExt.push ?_
    refine HExt.put ?_ ?_
    refine HExt.push ?_
    · assumption
    · exact .inr (by omega)
    · intro _ h; cases h; done
    simp only [beq_true, beq_false, Bool.not_true, Bool.not_false, Bool.not_eq_true', Bool.not_eq_false', decide_eq_true_eq, decide_eq_false_iff_not] at i12
    refine GWP.skip ?_
    refine GWP.region ?_
    refine GOps.r rfl rfl rfl rfl (grd_move rfl rfl) ?_
    refine GOps.r rfl rfl rfl rfl (grd_move rfl rfl) ?_
    refine GOps.r rfl rfl rfl rfl (grd_conv_in tab_is rfl rfl rfl rfl rfl ?_) ?_
    · refine wrap_u64_in ?_; omega
    focus
      refine GOps.w1 rfl rfl rfl rfl (gop_lit (id := ?_) (cs := ?_) ?_ tab_is rfl rfl rfl ?_ ?_ rfl ?_ ?_) ?_
      rotate_left 2
      · rfl
      · decide
      · decide
      · simp [gfill, gsets, Value.cells]; rfl
      · rfl
    focus
      refine GOps.w rfl rfl rfl rfl (gop_call rfl Try.call105 rfl ?_ (hP _ _ _ _ ?_ ?_ ?_ _ _ ?_ ?_ ?_ ?_ ?_ ?_ ?_ ?_)) ?_
      · intro _ h; cases h; done
      rotate_left 1
      focus
        refine bs_pushed ?_
        refine bs_row (b := ?_) ?_ ?_ ?_ ?_
        rotate_left 1
        · assumption
        · rfl
        · rfl
        · rfl
      · omega
      rotate_left 3
      · exact Hp.at_push_eq
      rotate_left 1
      · rfl
      · omega
      · omega
    rintro _ Hxi19 ⟨⟨idi13, Bi14, rfl, li15, hi16, mi17, ni18⟩, xi19⟩
    simp at li15
    have xi19l := HExt.len xi19; try simp at xi19l
    have hi16q := Hp.at_lt hi16
    try simp only [List.length_singleton] at li15
    try simp only [List.length_singleton] at ni18
    refine GOps.r rfl rfl rfl rfl (grd_assign rfl rfl) ?_
    refine GOps.nil ?_
    refine GWP.region ?_
    refine GOps.r rfl rfl rfl rfl (grd_add64 rfl rfl rfl ?_) ?_
    · omega
    refine GOps.r rfl rfl rfl rfl (grd_move rfl rfl) ?_
    refine GOps.nil ?_
    refine GRounds.step ?_
    refine GWP.seq ?_
    refine GWP.region ?_
    refine GOps.r rfl rfl rfl rfl (grd_lss rfl rfl rfl) ?_
    refine GOps.nil ?_
    refine GWP.seq ?_
    refine GWP.cond_t rfl ?_ ?_
    · exact decide_eq_true (by omega)
    refine GWP.skip ?_
    refine GWP.seq ?_
    refine GWP.block ?_
    refine GWP.seq ?_
    refine GWP.region ?_
    focus
      refine GOps.r rfl rfl rfl rfl (grd_indexV1 (v := ?_) tab_is rfl rfl rfl rfl rfl rfl rfl ?_ ?_ ?_) ?_
      rotate_left 1
      · omega
      · omega
      · simp only [List.getElem?_toArray, List.getElem?_cons_zero, List.getElem?_cons_succ]; rfl
    refine GOps.r rfl rfl rfl rfl (grd_assign rfl rfl) ?_
    refine GOps.nil ?_
    refine GWP.seq ?_
    refine GWP.seq ?_
    refine GWP.region ?_
    refine GOps.r rfl rfl rfl rfl (grd_move rfl rfl) ?_
    refine GOps.r rfl rfl rfl rfl (grd_lss rfl rfl rfl) ?_
    refine GOps.r rfl rfl rfl rfl (grd_move rfl rfl) ?_
    refine GOps.split rfl rfl (fun i20 => ?_) (fun i20 => ?_)
    simp only [beq_true, beq_false, Bool.not_true, Bool.not_false, Bool.not_eq_true', Bool.not_eq_false', decide_eq_true_eq, decide_eq_false_iff_not] at i20
    refine GOps.take rfl rfl ?_ ?_
    · exact beq_iff_eq.2 (decide_eq_false (by assumption))
    refine GOps.r rfl rfl rfl rfl (grd_move rfl rfl) ?_
    refine GOps.take rfl rfl ?_ ?_
    · exact beq_iff_eq.2 (decide_eq_false (by assumption))
    refine GOps.r rfl rfl rfl rfl (grd_gtr rfl rfl rfl) ?_
    refine GOps.r rfl rfl rfl rfl (grd_pick_f rfl rfl ?_ rfl) ?_
    · exact decide_eq_false (by assumption)
    refine GOps.nil ?_
    refine GWP.cond rfl (fun i21 => ?_) (fun i21 => ?_)
    simp only [beq_true, beq_false, Bool.not_true, Bool.not_false, Bool.not_eq_true', Bool.not_eq_false', decide_eq_true_eq, decide_eq_false_iff_not] at i21
    refine GWP.seq ?_
    refine GWP.region ?_
    refine GOps.r rfl rfl rfl rfl (grd_assign rfl rfl) ?_
    refine GOps.r rfl rfl rfl rfl (grd_assign rfl rfl) ?_
    refine GOps.nil ?_
    refine GWP.ret ?_
    refine ⟨_, .two (.one rfl) (.one rfl), ?_⟩
    refine ⟨?_, ?_⟩
    · rfl
    refine HExt.tr ?_ (by assumption) ?_
    refine HExt.push ?_
    refine HExt.tr ?_ (by assumption) ?_
    refine HExt.push ?_
    refine HExt.push ?_
    refine HExt.put ?_ ?_
    refine HExt.push ?_
    · assumption
    · exact .inr (by omega)
    · intro _ h; cases h; done
    · intro _ h; cases h; done
    simp only [beq_true, beq_false, Bool.not_true, Bool.not_false, Bool.not_eq_true', Bool.not_eq_false', decide_eq_true_eq, decide_eq_false_iff_not] at i21
    refine GWP.skip ?_
    refine GWP.region ?_
    refine GOps.r rfl rfl rfl rfl (grd_move rfl rfl) ?_
    refine GOps.r rfl rfl rfl rfl (grd_move rfl rfl) ?_
    refine GOps.r rfl rfl rfl rfl (grd_conv_in tab_is rfl rfl rfl rfl rfl ?_) ?_
    · refine wrap_u64_in ?_; omega
    focus
      refine GOps.w1 rfl rfl rfl rfl (gop_lit (id := ?_) (cs := ?_) ?_ tab_is rfl rfl rfl ?_ ?_ rfl ?_ ?_) ?_
      rotate_left 2
      · rfl
      · decide
      · decide
      · simp [gfill, gsets, Value.cells]; rfl
      · rfl
    focus
      refine GOps.w rfl rfl rfl rfl (gop_call rfl Try.call105 rfl ?_ (hP _ _ _ _ ?_ ?_ ?_ _ _ ?_ ?_ ?_ ?_ ?_ ?_ ?_ ?_)) ?_
      · intro _ h; cases h; done
      rotate_left 1
      focus
        refine bs_pushed ?_
        refine bs_row (b := ?_) ?_ ?_ ?_ ?_
        rotate_left 1
        · assumption
        · rfl
        · rfl
        · rfl
      · omega
      rotate_left 3
      · exact Hp.at_push_eq
      rotate_left 1
      · rfl
      · omega
      · omega
    rintro _ Hxi28 ⟨⟨idi22, Bi23, rfl, li24, hi25, mi26, ni27⟩, xi28⟩
    simp at li24
    have xi28l := HExt.len xi28; try simp at xi28l
    have hi25q := Hp.at_lt hi25
    try simp only [List.length_singleton] at li24
    try simp only [List.length_singleton] at ni27
    refine GOps.r rfl rfl rfl rfl (grd_assign rfl rfl) ?_
    refine GOps.nil ?_
    refine GWP.region ?_
    refine GOps.r rfl rfl rfl rfl (grd_add64 rfl rfl rfl ?_) ?_
    · omega
    refine GOps.r rfl rfl rfl rfl (grd_move rfl rfl) ?_
    refine GOps.nil ?_
    refine GRounds.step ?_
    refine GWP.seq ?_
    refine GWP.region ?_
    refine GOps.r rfl rfl rfl rfl (grd_lss rfl rfl rfl) ?_
    refine GOps.nil ?_
    refine GWP.seq ?_
    refine GWP.cond_t rfl ?_ ?_
    · exact decide_eq_true (by omega)
    refine GWP.skip ?_
    refine GWP.seq ?_
    refine GWP.block ?_
    refine GWP.seq ?_
    refine GWP.region ?_
    focus
      refine GOps.r rfl rfl rfl rfl (grd_indexV1 (v := ?_) tab_is rfl rfl rfl rfl rfl rfl rfl ?_ ?_ ?_) ?_
      rotate_left 1
      · omega
      · omega
      · simp only [List.getElem?_toArray, List.getElem?_cons_zero, List.getElem?_cons_succ]; rfl
    refine GOps.r rfl rfl rfl rfl (grd_assign rfl rfl) ?_
    refine GOps.nil ?_
    refine GWP.seq ?_
    refine GWP.seq ?_
    refine GWP.region ?_
    refine GOps.r rfl rfl rfl rfl (grd_move rfl rfl) ?_
    refine GOps.r rfl rfl rfl rfl (grd_lss rfl rfl rfl) ?_
    refine GOps.r rfl rfl rfl rfl (grd_move rfl rfl) ?_
    refine GOps.split rfl rfl (fun i29 => ?_) (fun i29 => ?_)
    simp only [beq_true, beq_false, Bool.not_true, Bool.not_false, Bool.not_eq_true', Bool.not_eq_false', decide_eq_true_eq, decide_eq_false_iff_not] at i29
    refine GOps.take rfl rfl ?_ ?_
    · exact beq_iff_eq.2 (decide_eq_false (by assumption))
    refine GOps.r rfl rfl rfl rfl (grd_move rfl rfl) ?_
    refine GOps.take rfl rfl ?_ ?_
    · exact beq_iff_eq.2 (decide_eq_false (by assumption))
    refine GOps.r rfl rfl rfl rfl (grd_gtr rfl rfl rfl) ?_
    refine GOps.r rfl rfl rfl rfl (grd_pick_f rfl rfl ?_ rfl) ?_
    · exact decide_eq_false (by assumption)
    refine GOps.nil ?_
    refine GWP.cond rfl (fun i30 => ?_) (fun i30 => ?_)
    simp only [beq_true, beq_false, Bool.not_true, Bool.not_false, Bool.not_eq_true', Bool.not_eq_false', decide_eq_true_eq, decide_eq_false_iff_not] at i30
    refine GWP.seq ?_
    refine GWP.region ?_
    refine GOps.r rfl rfl rfl rfl (grd_assign rfl rfl) ?_
    refine GOps.r rfl rfl rfl rfl (grd_assign rfl rfl) ?_
    refine GOps.nil ?_
    refine GWP.ret ?_
    refine ⟨_, .two (.one rfl) (.one rfl), ?_⟩
    refine ⟨?_, ?_⟩
    · rfl
    refine HExt.tr ?_ (by assumption) ?_
    refine HExt.push ?_
    refine HExt.tr ?_ (by assumption) ?_
    refine HExt.push ?_
    refine HExt.tr ?_ (by assumption) ?_
    refine HExt.push ?_
    refine HExt.push ?_
    refine HExt.put ?_ ?_
    refine HExt.push ?_
    · assumption
    · exact .inr (by omega)
    · intro _ h; cases h; done
    · intro _ h; cases h; done
    · intro _ h; cases h; done
    simp only [beq_true, beq_false, Bool.not_true, Bool.not_false, Bool.not_eq_true', Bool.not_eq_false', decide_eq_true_eq, decide_eq_false_iff_not] at i30
    refine GWP.skip ?_
    refine GWP.region ?_
    refine GOps.r rfl rfl rfl rfl (grd_move rfl rfl) ?_
    refine GOps.r rfl rfl rfl rfl (grd_move rfl rfl) ?_
    refine GOps.r rfl rfl rfl rfl (grd_conv_in tab_is rfl rfl rfl rfl rfl ?_) ?_
    · refine wrap_u64_in ?_; omega
    focus
      refine GOps.w1 rfl rfl rfl rfl (gop_lit (id := ?_) (cs := ?_) ?_ tab_is rfl rfl rfl ?_ ?_ rfl ?_ ?_) ?_
      rotate_left 2
      · rfl
      · decide
      · decide
      · simp [gfill, gsets, Value.cells]; rfl
      · rfl
    focus
      refine GOps.w rfl rfl rfl rfl (gop_call rfl Try.call105 rfl ?_ (hP _ _ _ _ ?_ ?_ ?_ _ _ ?_ ?_ ?_ ?_ ?_ ?_ ?_ ?_)) ?_
      · intro _ h; cases h; done
      rotate_left 1
      focus
        refine bs_pushed ?_
        refine bs_row (b := ?_) ?_ ?_ ?_ ?_
        rotate_left 1
        · assumption
        · rfl
        · rfl
        · rfl
      · omega
      rotate_left 3
      · exact Hp.at_push_eq
      rotate_left 1
      · rfl
      · omega
      · omega
    rintro _ Hxi37 ⟨⟨idi31, Bi32, rfl, li33, hi34, mi35, ni36⟩, xi37⟩
    simp at li33
    have xi37l := HExt.len xi37; try simp at xi37l
    have hi34q := Hp.at_lt hi34
    try simp only [List.length_singleton] at li33
    try simp only [List.length_singleton] at ni36
    refine GOps.r rfl rfl rfl rfl (grd_assign rfl rfl) ?_
    refine GOps.nil ?_
    refine GWP.region ?_
    refine GOps.r rfl rfl rfl rfl (grd_add64 rfl rfl rfl ?_) ?_
    · omega
    refine GOps.r rfl rfl rfl rfl (grd_move rfl rfl) ?_
    refine GOps.nil ?_
    refine GRounds.step ?_
    refine GWP.seq ?_
    refine GWP.region ?_
    refine GOps.r rfl rfl rfl rfl (grd_lss rfl rfl rfl) ?_
    refine GOps.nil ?_
    refine GWP.seq ?_
    refine GWP.cond_t rfl ?_ ?_
    · exact decide_eq_true (by omega)
    refine GWP.skip ?_
    refine GWP.seq ?_
    refine GWP.block ?_
    refine GWP.seq ?_
    refine GWP.region ?_
    focus
      refine GOps.r rfl rfl rfl rfl (grd_indexV1 (v := ?_) tab_is rfl rfl rfl rfl rfl rfl rfl ?_ ?_ ?_) ?_
      rotate_left 1
      · omega
      · omega
      · simp only [List.getElem?_toArray, List.getElem?_cons_zero, List.getElem?_cons_succ]; rfl
    refine GOps.r rfl rfl rfl rfl (grd_assign rfl rfl) ?_
    refine GOps.nil ?_
    refine GWP.seq ?_
    refine GWP.seq ?_
    refine GWP.region ?_
    refine GOps.r rfl rfl rfl rfl (grd_move rfl rfl) ?_
    refine GOps.r rfl rfl rfl rfl (grd_lss rfl rfl rfl) ?_
    refine GOps.r rfl rfl rfl rfl (grd_move rfl rfl) ?_
    refine GOps.split rfl rfl (fun i38 => ?_) (fun i38 => ?_)
    simp only [beq_true, beq_false, Bool.not_true, Bool.not_false, Bool.not_eq_true', Bool.not_eq_false', decide_eq_true_eq, decide_eq_false_iff_not] at i38
    refine GOps.take rfl rfl ?_ ?_
    · exact beq_iff_eq.2 (decide_eq_false (by assumption))
    refine GOps.r rfl rfl rfl rfl (grd_move rfl rfl) ?_
    refine GOps.take rfl rfl ?_ ?_
    · exact beq_iff_eq.2 (decide_eq_false (by assumption))
    refine GOps.r rfl rfl rfl rfl (grd_gtr rfl rfl rfl) ?_
    refine GOps.r rfl rfl rfl rfl (grd_pick_f rfl rfl ?_ rfl) ?_
    · exact decide_eq_false (by assumption)
    refine GOps.nil ?_
    refine GWP.cond_t rfl ?_ ?_
    · exact decide_eq_true (by omega)
    refine GWP.seq ?_
    refine GWP.region ?_
    refine GOps.r rfl rfl rfl rfl (grd_assign rfl rfl) ?_
    refine GOps.r rfl rfl rfl rfl (grd_assign rfl rfl) ?_
    refine GOps.nil ?_
    refine GWP.ret ?_
    refine ⟨_, .two (.one rfl) (.one rfl), ?_⟩
    refine ⟨?_, ?_⟩
    · rfl
    refine HExt.tr ?_ (by assumption) ?_
    refine HExt.push ?_
    refine HExt.tr ?_ (by assumption) ?_
    refine HExt.push ?_
    refine HExt.tr ?_ (by assumption) ?_
    refine HExt.push ?_
    refine HExt.tr ?_ (by assumption) ?_
    refine HExt.push ?_
    refine HExt.push ?_
    refine HExt.put ?_ ?_
    refine HExt.push ?_
    · assumption
    · exact .inr (by omega)
    · intro _ h; cases h; done
    · intro _ h; cases h; done
    · intro _ h; cases h; done
    · intro _ h; cases h; done
    simp only [beq_true, beq_false, Bool.not_true, Bool.not_false, Bool.not_eq_true', Bool.not_eq_false', decide_eq_true_eq, decide_eq_false_iff_not] at i38
    refine GOps.no rfl ?_ rfl rfl ?_
    · exact beq_eq_false_iff_ne.2 (by rw [decide_eq_true (by assumption)]; decide)
    refine GOps.no rfl ?_ rfl rfl ?_
    · exact beq_eq_false_iff_ne.2 (by rw [decide_eq_true (by assumption)]; decide)
    refine GOps.r rfl rfl rfl rfl (grd_pick_t rfl rfl ?_ rfl) ?_
    · exact decide_eq_true (by assumption)
    refine GOps.nil ?_
    refine GWP.cond_t rfl ?_ ?_
    · with_reducible rfl
    refine GWP.seq ?_
    refine GWP.region ?_
    refine GOps.r rfl rfl rfl rfl (grd_assign rfl rfl) ?_
    refine GOps.r rfl rfl rfl rfl (grd_assign rfl rfl) ?_
    refine GOps.nil ?_
    refine GWP.ret ?_
    refine ⟨_, .two (.one rfl) (.one rfl), ?_⟩
    refine ⟨?_, ?_⟩
    · rfl
    refine HExt.tr ?_ (by assumption) ?_
    refine HExt.push ?_
    refine HExt.tr ?_ (by assumption) ?_
    refine HExt.push ?_
    refine HExt.tr ?_ (by assumption) ?_
    refine HExt.push ?_
    refine HExt.tr ?_ (by assumption) ?_
    refine HExt.push ?_
    refine HExt.push ?_
    refine HExt.put ?_ ?_
    refine HExt.push ?_
    · assumption
    · exact .inr (by omega)
    · intro _ h; cases h; done
    · intro _ h; cases h; done
    · intro _ h; cases h; done
    · intro _ h; cases h; done
    simp only [beq_true, beq_false, Bool.not_true, Bool.not_false, Bool.not_eq_true', Bool.not_eq_false', decide_eq_true_eq, decide_eq_false_iff_not] at i29
    refine GOps.no rfl ?_ rfl rfl ?_
    · exact beq_eq_false_iff_ne.2 (by rw [decide_eq_true (by assumption)]; decide)
    refine GOps.no rfl ?_ rfl rfl ?_
    · exact beq_eq_false_iff_ne.2 (by rw [decide_eq_true (by assumption)]; decide)
    refine GOps.r rfl rfl rfl rfl (grd_pick_t rfl rfl ?_ rfl) ?_
    · exact decide_eq_true (by assumption)
    refine GOps.nil ?_
    refine GWP.cond_t rfl ?_ ?_
    · with_reducible rfl
    refine GWP.seq ?_
    refine GWP.region ?_
    refine GOps.r rfl rfl rfl rfl (grd_assign rfl rfl) ?_
    refine GOps.r rfl rfl rfl rfl (grd_assign rfl rfl) ?_
    refine GOps.nil ?_
    refine GWP.ret ?_
    refine ⟨_, .two (.one rfl) (.one rfl), ?_⟩
    refine ⟨?_, ?_⟩
    · rfl
    refine HExt.tr ?_ (by assumption) ?_
    refine HExt.push ?_
    refine HExt.tr ?_ (by assumption) ?_
    refine HExt.push ?_
    refine HExt.tr ?_ (by assumption) ?_
    refine HExt.push ?_
    refine HExt.push ?_
    refine HExt.put ?_ ?_
    refine HExt.push ?_
    · assumption
    · exact .inr (by omega)
    · intro _ h; cases h; done
    · intro _ h; cases h; done
    · intro _ h; cases h; done
    simp only [beq_true, beq_false, Bool.not_true, Bool.not_false, Bool.not_eq_true', Bool.not_eq_false', decide_eq_true_eq, decide_eq_false_iff_not] at i20
    refine GOps.no rfl ?_ rfl rfl ?_
    · exact beq_eq_false_iff_ne.2 (by rw [decide_eq_true (by assumption)]; decide)
    refine GOps.no rfl ?_ rfl rfl ?_
    · exact beq_eq_false_iff_ne.2 (by rw [decide_eq_true (by assumption)]; decide)
    refine GOps.r rfl rfl rfl rfl (grd_pick_t rfl rfl ?_ rfl) ?_
    · exact decide_eq_true (by assumption)
    refine GOps.nil ?_
    refine GWP.cond_t rfl ?_ ?_
    · with_reducible rfl
    refine GWP.seq ?_
    refine GWP.region ?_
    refine GOps.r rfl rfl rfl rfl (grd_assign rfl rfl) ?_
    refine GOps.r rfl rfl rfl rfl (grd_assign rfl rfl) ?_
    refine GOps.nil ?_
    refine GWP.ret ?_
    refine ⟨_, .two (.one rfl) (.one rfl), ?_⟩
    refine ⟨?_, ?_⟩
    · rfl
    refine HExt.tr ?_ (by assumption) ?_
    refine HExt.push ?_
    refine HExt.tr ?_ (by assumption) ?_
    refine HExt.push ?_
    refine HExt.push ?_
    refine HExt.put ?_ ?_
    refine HExt.push ?_
    · assumption
    · exact .inr (by omega)
    · intro _ h; cases h; done
    · intro _ h; cases h; done
    simp only [beq_true, beq_false, Bool.not_true, Bool.not_false, Bool.not_eq_true', Bool.not_eq_false', decide_eq_true_eq, decide_eq_false_iff_not] at i11
    refine GOps.no rfl ?_ rfl rfl ?_
    · exact beq_eq_false_iff_ne.2 (by rw [decide_eq_true (by assumption)]; decide)
    refine GOps.no rfl ?_ rfl rfl ?_
    · exact beq_eq_false_iff_ne.2 (by rw [decide_eq_true (by assumption)]; decide)
    refine GOps.r rfl rfl rfl rfl (grd_pick_t rfl rfl ?_ rfl) ?_
    · exact decide_eq_true (by assumption)
    refine GOps.nil ?_
    refine GWP.cond_t rfl ?_ ?_
    · with_reducible rfl
    refine GWP.seq ?_
    refine GWP.region ?_
    refine GOps.r rfl rfl rfl rfl (grd_assign rfl rfl) ?_
    refine GOps.r rfl rfl rfl rfl (grd_assign rfl rfl) ?_
    refine GOps.nil ?_
    refine GWP.ret ?_
    refine ⟨_, .two (.one rfl) (.one rfl), ?_⟩
    refine ⟨?_, ?_⟩
    · rfl
    refine HExt.tr ?_ (by assumption) ?_
    refine HExt.push ?_
    refine HExt.push ?_
    refine HExt.put ?_ ?_
    refine HExt.push ?_
    · assumption
    · exact .inr (by omega)
    · intro _ h; cases h; done
    simp only [beq_true, beq_false, Bool.not_true, Bool.not_false, Bool.not_eq_true', Bool.not_eq_false', decide_eq_true_eq, decide_eq_false_iff_not] at i2
    refine GOps.no rfl ?_ rfl rfl ?_
    · exact beq_eq_false_iff_ne.2 (by rw [decide_eq_true (by assumption)]; decide)
    refine GOps.no rfl ?_ rfl rfl ?_
    · exact beq_eq_false_iff_ne.2 (by rw [decide_eq_true (by assumption)]; decide)
    refine GOps.r rfl rfl rfl rfl (grd_pick_t rfl rfl ?_ rfl) ?_
    · exact decide_eq_true (by assumption)
    refine GOps.nil ?_
    refine GWP.cond_t rfl ?_ ?_
    · with_reducible rfl
    refine GWP.seq ?_
    refine GWP.region ?_
    refine GOps.r rfl rfl rfl rfl (grd_assign rfl rfl) ?_
    refine GOps.r rfl rfl rfl rfl (grd_assign rfl rfl) ?_
    refine GOps.nil ?_
    refine GWP.ret ?_
    refine ⟨_, .two (.one rfl) (.one rfl), ?_⟩
    refine ⟨?_, ?_⟩
    · rfl
    refine HExt.push ?_
    refine HExt.put ?_ ?_
    refine HExt.push ?_
    · assumption
    · exact .inr (by omega)
set_option maxHeartbeats 4000000 in
set_option maxRecDepth 100000 in
set_option linter.unusedSimpArgs false in
theorem g_sbytesT (H : Hp) (a b c d e : Nat) (l : Bool) (hel : e = if l then 1 else 0) (h1 : a ≤ 1073741824) (h2 : b ≤ 1073741824) (h3 : c ≤ 1073741824) (h4 : d ≤ 1073741824) (h5 : e ≤ 1073741824) : GCalls Try.prog 49 [.iface 94 (.agg #[.int .i64 (a : Int), .int .i64 (b : Int), .int .i64 (c : Int), .int .i64 (d : Int), .bool l])] [] H fun v H' => (∃ p' c', v = .tuple #[.slice p' ((segL 84 a b c d (e)).length + 4) c', .int .i64 0] ∧ BS H' (.slice p' ((segL 84 a b c d (e)).length + 4) c') (sealL (segL 84 a b c d (e)))) ∧ HExt [] H H' := by
  have hN := fun H => g_numT H a b c d l
  have hel2 : (if l then (1 : Int) else 0) = (e : Int) := by
    subst hel
    cases l <;> rfl
  rw [hel2] at hN
  have hk0 : (84 : Int) = ((84 : UInt8).toNat : Int) := rfl
  unfold segL
  have ea := enc_le a (by omega)
  have eb := enc_le b (by omega)
  have ec := enc_le c (by omega)
  have ed := enc_le d (by omega)
  have ee := enc_le e (by omega)
  have l1 : ([84] ++ encs [a]).length = 1 + (enc a).length := by simp [encs_cons, encs_nil]; omega
  have l2 : (([84] ++ encs [a]) ++ encs [b]).length = 1 + (enc a).length + (enc b).length := by simp [encs_cons, encs_nil]; omega
  have l3 : ((([84] ++ encs [a]) ++ encs [b]) ++ encs [c]).length = 1 + (enc a).length + (enc b).length + (enc c).length := by simp [encs_cons, encs_nil]; omega
  have l4 : (((([84] ++ encs [a]) ++ encs [b]) ++ encs [c]) ++ encs [d]).length = 1 + (enc a).length + (enc b).length + (enc c).length + (enc d).length := by simp [encs_cons, encs_nil]; omega
  have l5 : ((((([84] ++ encs [a]) ++ encs [b]) ++ encs [c]) ++ encs [d]) ++ encs [e]).length = 1 + (enc a).length + (enc b).length + (enc c).length + (enc d).length + (enc e).length := by simp [encs_cons, encs_nil]; omega
  have s1 : ([84] ++ encs [a]).length ≤ 70368744177664 := by omega
  have s2 : (([84] ++ encs [a]) ++ encs [b]).length ≤ 70368744177664 := by omega
  have s3 : ((([84] ++ encs [a]) ++ encs [b]) ++ encs [c]).length ≤ 70368744177664 := by omega
  have s4 : (((([84] ++ encs [a]) ++ encs [b]) ++ encs [c]) ++ encs [d]).length ≤ 70368744177664 := by omega
  have s5 : ((((([84] ++ encs [a]) ++ encs [b]) ++ encs [c]) ++ encs [d]) ++ encs [e]).length ≤ 70368744177664 := by omega
  have lt1 : ∀ n, n ≤ 1073741824 → ∀ x ∈ [n], x < 18446744073709551616 := fun n hn x hx => by
    rw [List.mem_singleton] at hx
    omega
  have hc : ∀ n : Nat, [Value.int .u64 (n : Int)] = [n].map (fun x : Nat => Value.int .u64 (x : Int)) := fun _ => rfl
  refine GCalls.body tab_is Try.func49 rfl Try.results49 Try.ntmps49 (by simp) ?_ ?_
  · first | (intro _ h; cases h; done) | (simp; done) | (simp; omega) | (intro i hi; simp at hi; rcases hi with rfl | rfl <;> omega) | (intro i hi; simp at hi; rcases hi with rfl | rfl | rfl <;> omega)
  focus
    refine GWP.seq ?_
    refine GWP.region ?_
    refine GOps.r rfl rfl rfl rfl (grd_assign rfl rfl) ?_
    refine GOps.r rfl rfl rfl rfl (grd_assign rfl rfl) ?_
    refine GOps.nil ?_
    refine GWP.seq ?_
    refine GWP.seq ?_
    refine GWP.region ?_
    refine GOps.r rfl rfl rfl rfl (grd_move rfl rfl) ?_
    refine GOps.r rfl rfl rfl rfl (grd_ieq tab_is rfl rfl rfl rfl) ?_
    refine GOps.nil ?_
    refine GWP.cond_f rfl ?_ ?_
    · with_reducible rfl
    refine GWP.skip ?_
    refine GWP.seq ?_
    refine GWP.region ?_
    refine GOps.r rfl rfl rfl rfl (grd_move rfl rfl) ?_
    refine GOps.w rfl rfl rfl rfl (gop_invoke (xs := []) rfl rfl (by kernel_rfl) Try.call193 rfl ?_ (hN _)) ?_
    · intro _ h; cases h; done
    rintro _ Hxj1 ⟨rfl, xj1⟩
    have xj1l := HExt.len xj1; try simp at xj1l
    refine GOps.r rfl rfl rfl rfl (grd_move rfl rfl) ?_
    focus
      refine GOps.r rfl rfl rfl rfl (grd_extract (v := ?_) rfl rfl ?_) ?_
      rotate_left 1
      · simp only [List.getElem?_toArray, List.getElem?_cons_zero, List.getElem?_cons_succ]; rfl
    focus
      refine GOps.r rfl rfl rfl rfl (grd_extract (v := ?_) rfl rfl ?_) ?_
      rotate_left 1
      · simp only [List.getElem?_toArray, List.getElem?_cons_zero, List.getElem?_cons_succ]; rfl
    focus
      refine GOps.r rfl rfl rfl rfl (grd_extract (v := ?_) rfl rfl ?_) ?_
      rotate_left 1
      · simp only [List.getElem?_toArray, List.getElem?_cons_zero, List.getElem?_cons_succ]; rfl
    focus
      refine GOps.w1 rfl rfl rfl rfl (gop_alloc' (id := ?_) ?_ tab_is rfl rfl ?_) ?_
      rotate_left 1
      · rfl
      · decide
    refine GOps.r rfl rfl rfl rfl (grd_assign rfl rfl) ?_
    focus
      refine GOps.s rfl rfl rfl (gop_storeC (b := ?_) (cs := ?_) tab_is rfl rfl ?_ rfl rfl ?_ ?_ ?_ ?_ ?_ ?_) ?_
      rotate_left 2
      · rfl
      · rfl
      · exact Hp.at_push_eq
      · rfl
      · exact Nat.le_of_ble_eq_true rfl
      · exact .inr (by omega)
      · simp [splice, Value.cells]; rfl
    refine GOps.r rfl rfl rfl rfl (grd_assign rfl rfl) ?_
    refine GOps.nil ?_
    refine GWP.seq ?_
    refine GWP.region ?_
    refine GOps.r rfl rfl rfl rfl (grd_move rfl rfl) ?_
    focus
      refine GOps.w1 rfl rfl rfl rfl (gop_lit (id := ?_) (cs := ?_) ?_ tab_is rfl rfl rfl ?_ ?_ rfl ?_ ?_) ?_
      rotate_left 2
      · simp; rfl
      · decide
      · decide
      · simp [gfill, gsets, Value.cells]; rfl
      · rfl
    refine GOps.r rfl rfl rfl rfl (grd_assign rfl rfl) ?_
    refine GOps.nil ?_
    refine GWP.seq ?_
    refine GWP.seq ?_
    refine GWP.region ?_
    refine GOps.r rfl rfl rfl rfl (grd_move rfl rfl) ?_
    refine GOps.r rfl rfl rfl rfl (grd_eql rfl rfl rfl) ?_
    refine GOps.nil ?_
    refine GWP.cond_f rfl ?_ ?_
    · exact decide_eq_false (by omega)
    refine GWP.skip ?_
    refine GWP.seq ?_
    refine GWP.seq ?_
    refine GWP.region ?_
    focus
      refine GOps.r rfl rfl rfl rfl (grd_loadNK (b := ?_) (cs := ?_) tab_is rfl rfl rfl rfl ?_ ?_ ?_) ?_
      rotate_left 2
      refine (Hp.at_push_lt ?_).trans ?_
      · simp; done
      refine Hp.at_put_eq ?_
      · simp; done
      · exact Nat.le_of_ble_eq_true rfl
      · simp [Value.cells]; rfl
    refine GOps.r rfl rfl rfl rfl (grd_move rfl rfl) ?_
    refine GOps.nil ?_
    refine GWP.block ?_
    refine GWP.loopN 6 ?_
    refine GRounds.step ?_
    refine GWP.seq ?_
    refine GWP.region ?_
    refine GOps.r rfl rfl rfl rfl (grd_lss rfl rfl rfl) ?_
    refine GOps.nil ?_
    refine GWP.seq ?_
    refine GWP.cond_t rfl ?_ ?_
    · exact decide_eq_true (by omega)
    refine GWP.skip ?_
    refine GWP.seq ?_
    refine GWP.block ?_
    refine GWP.seq ?_
    refine GWP.region ?_
    focus
      refine GOps.r rfl rfl rfl rfl (grd_indexV1 (v := ?_) tab_is rfl rfl rfl rfl rfl rfl rfl ?_ ?_ ?_) ?_
      rotate_left 1
      · omega
      · omega
      · simp only [List.getElem?_toArray, List.getElem?_cons_zero, List.getElem?_cons_succ]; rfl
    refine GOps.r rfl rfl rfl rfl (grd_assign rfl rfl) ?_
    refine GOps.nil ?_
    refine GWP.seq ?_
    refine GWP.seq ?_
    refine GWP.region ?_
    refine GOps.r rfl rfl rfl rfl (grd_move rfl rfl) ?_
    refine GOps.r rfl rfl rfl rfl (grd_lss rfl rfl rfl) ?_
    refine GOps.r rfl rfl rfl rfl (grd_move rfl rfl) ?_
    refine GOps.take rfl rfl ?_ ?_
    · simp; done
    refine GOps.r rfl rfl rfl rfl (grd_move rfl rfl) ?_
    refine GOps.take rfl rfl ?_ ?_
    · simp; done
    refine GOps.r rfl rfl rfl rfl (grd_gtr rfl rfl rfl) ?_
    refine GOps.r rfl rfl rfl rfl (grd_pick_f rfl rfl ?_ rfl) ?_
    · exact decide_eq_false (by omega)
    refine GOps.nil ?_
    refine GWP.cond_f rfl ?_ ?_
    · exact decide_eq_false (by omega)
    refine GWP.skip ?_
    refine GWP.region ?_
    refine GOps.r rfl rfl rfl rfl (grd_move rfl rfl) ?_
    refine GOps.r rfl rfl rfl rfl (grd_move rfl rfl) ?_
    refine GOps.r rfl rfl rfl rfl (grd_conv_in tab_is rfl rfl rfl rfl rfl ?_) ?_
    · refine wrap_u64_in ?_; omega
    focus
      refine GOps.w1 rfl rfl rfl rfl (gop_lit (id := ?_) (cs := ?_) ?_ tab_is rfl rfl rfl ?_ ?_ rfl ?_ ?_) ?_
      rotate_left 2
      · simp; rfl
      · decide
      · decide
      · simp [gfill, gsets, Value.cells]; rfl
      · rfl
    focus
      refine GOps.w rfl rfl rfl rfl (gop_call rfl Try.call105 rfl ?_ (g_put _ _ _ _ ?_ ?_ _ _ [a] ?_ ?_ ?_ ?_ ?_ (lt1 a h1) ?_ ?_ ?_)) ?_
      · intro _ h; cases h; done
      rotate_left 1
      refine bs_b1 (b := ?_) (u := ?_) ?_ ?_ ?_ ?_
      rotate_left 2
      refine (Hp.at_push_lt ?_).trans ?_
      · simp; done
      refine Hp.at_push_id ?_
      · simp; done
      · rfl
      · exact congrArg (fun z : Int => [Value.int .u8 z]) (by assumption)
      · rfl
      rotate_left 3
      refine Hp.at_push_id ?_
      · simp; done
      · exact hc a
      · exact s1
      · simp; done
      · simp; done
    rintro _ Hxj5 ⟨⟨idj2, rfl, lj3, hj4⟩, xj5⟩
    simp at lj3
    have xj5l := HExt.len xj5; try simp at xj5l
    have hj4q := Hp.at_lt hj4
    refine GOps.r rfl rfl rfl rfl (grd_assign rfl rfl) ?_
    refine GOps.nil ?_
    refine GWP.region ?_
    refine GOps.r rfl rfl rfl rfl (grd_add64 rfl rfl rfl ?_) ?_
    · omega
    refine GOps.r rfl rfl rfl rfl (grd_move rfl rfl) ?_
    refine GOps.nil ?_
    refine GRounds.step ?_
    refine GWP.seq ?_
    refine GWP.region ?_
    refine GOps.r rfl rfl rfl rfl (grd_lss rfl rfl rfl) ?_
    refine GOps.nil ?_
    refine GWP.seq ?_
    refine GWP.cond_t rfl ?_ ?_
    · exact decide_eq_true (by omega)
    refine GWP.skip ?_
    refine GWP.seq ?_
    refine GWP.block ?_
    refine GWP.seq ?_
    refine GWP.region ?_
    focus
      refine GOps.r rfl rfl rfl rfl (grd_indexV1 (v := ?_) tab_is rfl rfl rfl rfl rfl rfl rfl ?_ ?_ ?_) ?_
      rotate_left 1
      · omega
      · omega
      · simp only [List.getElem?_toArray, List.getElem?_cons_zero, List.getElem?_cons_succ]; rfl
    refine GOps.r rfl rfl rfl rfl (grd_assign rfl rfl) ?_
    refine GOps.nil ?_
    refine GWP.seq ?_
    refine GWP.seq ?_
    refine GWP.region ?_
    refine GOps.r rfl rfl rfl rfl (grd_move rfl rfl) ?_
    refine GOps.r rfl rfl rfl rfl (grd_lss rfl rfl rfl) ?_
    refine GOps.r rfl rfl rfl rfl (grd_move rfl rfl) ?_
    refine GOps.take rfl rfl ?_ ?_
    · simp; done
    refine GOps.r rfl rfl rfl rfl (grd_move rfl rfl) ?_
    refine GOps.take rfl rfl ?_ ?_
    · simp; done
    refine GOps.r rfl rfl rfl rfl (grd_gtr rfl rfl rfl) ?_
    refine GOps.r rfl rfl rfl rfl (grd_pick_f rfl rfl ?_ rfl) ?_
    · exact decide_eq_false (by omega)
    refine GOps.nil ?_
    refine GWP.cond_f rfl ?_ ?_
    · exact decide_eq_false (by omega)
    refine GWP.skip ?_
    refine GWP.region ?_
    refine GOps.r rfl rfl rfl rfl (grd_move rfl rfl) ?_
    refine GOps.r rfl rfl rfl rfl (grd_move rfl rfl) ?_
    refine GOps.r rfl rfl rfl rfl (grd_conv_in tab_is rfl rfl rfl rfl rfl ?_) ?_
    · refine wrap_u64_in ?_; omega
    focus
      refine GOps.w1 rfl rfl rfl rfl (gop_lit (id := ?_) (cs := ?_) ?_ tab_is rfl rfl rfl ?_ ?_ rfl ?_ ?_) ?_
      rotate_left 2
      · rfl
      · decide
      · decide
      · simp [gfill, gsets, Value.cells]; rfl
      · rfl
    focus
      refine GOps.w rfl rfl rfl rfl (gop_call rfl Try.call105 rfl ?_ (g_put _ _ _ _ ?_ ?_ _ _ [b] ?_ ?_ ?_ ?_ ?_ (lt1 b h2) ?_ ?_ ?_)) ?_
      · intro _ h; cases h; done
      rotate_left 1
      focus
        refine bs_pushed ?_
        refine bs_row (b := ?_) ?_ ?_ ?_ ?_
        rotate_left 1
        · assumption
        · rfl
        · rfl
        · rfl
      rotate_left 3
      · exact Hp.at_push_eq
      · exact hc b
      · exact s2
      · simp; done
      · simp; done
    rintro _ Hxj9 ⟨⟨idj6, rfl, lj7, hj8⟩, xj9⟩
    simp at lj7
    have xj9l := HExt.len xj9; try simp at xj9l
    have hj8q := Hp.at_lt hj8
    refine GOps.r rfl rfl rfl rfl (grd_assign rfl rfl) ?_
    refine GOps.nil ?_
    refine GWP.region ?_
    refine GOps.r rfl rfl rfl rfl (grd_add64 rfl rfl rfl ?_) ?_
    · omega
    refine GOps.r rfl rfl rfl rfl (grd_move rfl rfl) ?_
    refine GOps.nil ?_
    refine GRounds.step ?_
    refine GWP.seq ?_
    refine GWP.region ?_
    refine GOps.r rfl rfl rfl rfl (grd_lss rfl rfl rfl) ?_
    refine GOps.nil ?_
    refine GWP.seq ?_
    refine GWP.cond_t rfl ?_ ?_
    · exact decide_eq_true (by omega)
    refine GWP.skip ?_
    refine GWP.seq ?_
    refine GWP.block ?_
    refine GWP.seq ?_
    refine GWP.region ?_
    focus
      refine GOps.r rfl rfl rfl rfl (grd_indexV1 (v := ?_) tab_is rfl rfl rfl rfl rfl rfl rfl ?_ ?_ ?_) ?_
      rotate_left 1
      · omega
      · omega
      · simp only [List.getElem?_toArray, List.getElem?_cons_zero, List.getElem?_cons_succ]; rfl
    refine GOps.r rfl rfl rfl rfl (grd_assign rfl rfl) ?_
    refine GOps.nil ?_
    refine GWP.seq ?_
    refine GWP.seq ?_
    refine GWP.region ?_
    refine GOps.r rfl rfl rfl rfl (grd_move rfl rfl) ?_
    refine GOps.r rfl rfl rfl rfl (grd_lss rfl rfl rfl) ?_
    refine GOps.r rfl rfl rfl rfl (grd_move rfl rfl) ?_
    refine GOps.take rfl rfl ?_ ?_
    · simp; done
    refine GOps.r rfl rfl rfl rfl (grd_move rfl rfl) ?_
    refine GOps.take rfl rfl ?_ ?_
    · simp; done
    refine GOps.r rfl rfl rfl rfl (grd_gtr rfl rfl rfl) ?_
    refine GOps.r rfl rfl rfl rfl (grd_pick_f rfl rfl ?_ rfl) ?_
    · exact decide_eq_false (by omega)
    refine GOps.nil ?_
    refine GWP.cond_f rfl ?_ ?_
    · exact decide_eq_false (by omega)
    refine GWP.skip ?_
    refine GWP.region ?_
    refine GOps.r rfl rfl rfl rfl (grd_move rfl rfl) ?_
    refine GOps.r rfl rfl rfl rfl (grd_move rfl rfl) ?_
    refine GOps.r rfl rfl rfl rfl (grd_conv_in tab_is rfl rfl rfl rfl rfl ?_) ?_
    · refine wrap_u64_in ?_; omega
    focus
      refine GOps.w1 rfl rfl rfl rfl (gop_lit (id := ?_) (cs := ?_) ?_ tab_is rfl rfl rfl ?_ ?_ rfl ?_ ?_) ?_
      rotate_left 2
      · rfl
      · decide
      · decide
      · simp [gfill, gsets, Value.cells]; rfl
      · rfl
    focus
      refine GOps.w rfl rfl rfl rfl (gop_call rfl Try.call105 rfl ?_ (g_put _ _ _ _ ?_ ?_ _ _ [c] ?_ ?_ ?_ ?_ ?_ (lt1 c h3) ?_ ?_ ?_)) ?_
      · intro _ h; cases h; done
      rotate_left 1
      focus
        refine bs_pushed ?_
        refine bs_row (b := ?_) ?_ ?_ ?_ ?_
        rotate_left 1
        · assumption
        · rfl
        · rfl
        · rfl
      rotate_left 3
      · exact Hp.at_push_eq
      · exact hc c
      · exact s3
      · simp; done
      · simp; done
    rintro _ Hxj13 ⟨⟨idj10, rfl, lj11, hj12⟩, xj13⟩
    simp at lj11
    have xj13l := HExt.len xj13; try simp at xj13l
    have hj12q := Hp.at_lt hj12
    refine GOps.r rfl rfl rfl rfl (grd_assign rfl rfl) ?_
    refine GOps.nil ?_
    refine GWP.region ?_
    refine GOps.r rfl rfl rfl rfl (grd_add64 rfl rfl rfl ?_) ?_
    · omega
    refine GOps.r rfl rfl rfl rfl (grd_move rfl rfl) ?_
    refine GOps.nil ?_
    refine GRounds.step ?_
    refine GWP.seq ?_
    refine GWP.region ?_
    refine GOps.r rfl rfl rfl rfl (grd_lss rfl rfl rfl) ?_
    refine GOps.nil ?_
    refine GWP.seq ?_
    refine GWP.cond_t rfl ?_ ?_
    · exact decide_eq_true (by omega)
    refine GWP.skip ?_
    refine GWP.seq ?_
    refine GWP.block ?_
    refine GWP.seq ?_
    refine GWP.region ?_
    focus
      refine GOps.r rfl rfl rfl rfl (grd_indexV1 (v := ?_) tab_is rfl rfl rfl rfl rfl rfl rfl ?_ ?_ ?_) ?_
      rotate_left 1
      · omega
      · omega
      · simp only [List.getElem?_toArray, List.getElem?_cons_zero, List.getElem?_cons_succ]; rfl
    refine GOps.r rfl rfl rfl rfl (grd_assign rfl rfl) ?_
    refine GOps.nil ?_
    refine GWP.seq ?_
    refine GWP.seq ?_
    refine GWP.region ?_
    refine GOps.r rfl rfl rfl rfl (grd_move rfl rfl) ?_
    refine GOps.r rfl rfl rfl rfl (grd_lss rfl rfl rfl) ?_
    refine GOps.r rfl rfl rfl rfl (grd_move rfl rfl) ?_
    refine GOps.take rfl rfl ?_ ?_
    · simp; done
    refine GOps.r rfl rfl rfl rfl (grd_move rfl rfl) ?_
    refine GOps.take rfl rfl ?_ ?_
    · simp; done
    refine GOps.r rfl rfl rfl rfl (grd_gtr rfl rfl rfl) ?_
    refine GOps.r rfl rfl rfl rfl (grd_pick_f rfl rfl ?_ rfl) ?_
    · exact decide_eq_false (by omega)
    refine GOps.nil ?_
    refine GWP.cond_f rfl ?_ ?_
    · exact decide_eq_false (by omega)
    refine GWP.skip ?_
    refine GWP.region ?_
    refine GOps.r rfl rfl rfl rfl (grd_move rfl rfl) ?_
    refine GOps.r rfl rfl rfl rfl (grd_move rfl rfl) ?_
    refine GOps.r rfl rfl rfl rfl (grd_conv_in tab_is rfl rfl rfl rfl rfl ?_) ?_
    · refine wrap_u64_in ?_; omega
    focus
      refine GOps.w1 rfl rfl rfl rfl (gop_lit (id := ?_) (cs := ?_) ?_ tab_is rfl rfl rfl ?_ ?_ rfl ?_ ?_) ?_
      rotate_left 2
      · rfl
      · decide
      · decide
      · simp [gfill, gsets, Value.cells]; rfl
      · rfl
    focus
      refine GOps.w rfl rfl rfl rfl (gop_call rfl Try.call105 rfl ?_ (g_put _ _ _ _ ?_ ?_ _ _ [d] ?_ ?_ ?_ ?_ ?_ (lt1 d h4) ?_ ?_ ?_)) ?_
      · intro _ h; cases h; done
      rotate_left 1
      focus
        refine bs_pushed ?_
        refine bs_row (b := ?_) ?_ ?_ ?_ ?_
        rotate_left 1
        · assumption
        · rfl
        · rfl
        · rfl
      rotate_left 3
      · exact Hp.at_push_eq
      · exact hc d
      · exact s4
      · simp; done
      · simp; done
    rintro _ Hxj17 ⟨⟨idj14, rfl, lj15, hj16⟩, xj17⟩
    simp at lj15
    have xj17l := HExt.len xj17; try simp at xj17l
    have hj16q := Hp.at_lt hj16
    refine GOps.r rfl rfl rfl rfl (grd_assign rfl rfl) ?_
    refine GOps.nil ?_
    refine GWP.region ?_
    refine GOps.r rfl rfl rfl rfl (grd_add64 rfl rfl rfl ?_) ?_
    · omega
    refine GOps.r rfl rfl rfl rfl (grd_move rfl rfl) ?_
    refine GOps.nil ?_
    refine GRounds.step ?_
    refine GWP.seq ?_
    refine GWP.region ?_
    refine GOps.r rfl rfl rfl rfl (grd_lss rfl rfl rfl) ?_
    refine GOps.nil ?_
    refine GWP.seq ?_
    refine GWP.cond_t rfl ?_ ?_
    · exact decide_eq_true (by omega)
    refine GWP.skip ?_
    refine GWP.seq ?_
    refine GWP.block ?_
    refine GWP.seq ?_
    refine GWP.region ?_
    focus
      refine GOps.r rfl rfl rfl rfl (grd_indexV1 (v := ?_) tab_is rfl rfl rfl rfl rfl rfl rfl ?_ ?_ ?_) ?_
      rotate_left 1
      · omega
      · omega
      · simp only [List.getElem?_toArray, List.getElem?_cons_zero, List.getElem?_cons_succ]; rfl
    refine GOps.r rfl rfl rfl rfl (grd_assign rfl rfl) ?_
    refine GOps.nil ?_
    refine GWP.seq ?_
    refine GWP.seq ?_
    refine GWP.region ?_
    refine GOps.r rfl rfl rfl rfl (grd_move rfl rfl) ?_
    refine GOps.r rfl rfl rfl rfl (grd_lss rfl rfl rfl) ?_
    refine GOps.r rfl rfl rfl rfl (grd_move rfl rfl) ?_
    refine GOps.take rfl rfl ?_ ?_
    · simp; done
    refine GOps.r rfl rfl rfl rfl (grd_move rfl rfl) ?_
    refine GOps.take rfl rfl ?_ ?_
    · simp; done
    refine GOps.r rfl rfl rfl rfl (grd_gtr rfl rfl rfl) ?_
    refine GOps.r rfl rfl rfl rfl (grd_pick_f rfl rfl ?_ rfl) ?_
    · exact decide_eq_false (by omega)
    refine GOps.nil ?_
    refine GWP.cond_f rfl ?_ ?_
    · exact decide_eq_false (by omega)
    refine GWP.skip ?_
    refine GWP.region ?_
    refine GOps.r rfl rfl rfl rfl (grd_move rfl rfl) ?_
    refine GOps.r rfl rfl rfl rfl (grd_move rfl rfl) ?_
    refine GOps.r rfl rfl rfl rfl (grd_conv_in tab_is rfl rfl rfl rfl rfl ?_) ?_
    · refine wrap_u64_in ?_; omega
    focus
      refine GOps.w1 rfl rfl rfl rfl (gop_lit (id := ?_) (cs := ?_) ?_ tab_is rfl rfl rfl ?_ ?_ rfl ?_ ?_) ?_
      rotate_left 2
      · rfl
      · decide
      · decide
      · simp [gfill, gsets, Value.cells]; rfl
      · rfl
    focus
      refine GOps.w rfl rfl rfl rfl (gop_call rfl Try.call105 rfl ?_ (g_put _ _ _ _ ?_ ?_ _ _ [e] ?_ ?_ ?_ ?_ ?_ (lt1 e h5) ?_ ?_ ?_)) ?_
      · intro _ h; cases h; done
      rotate_left 1
      focus
        refine bs_pushed ?_
        refine bs_row (b := ?_) ?_ ?_ ?_ ?_
        rotate_left 1
        · assumption
        · rfl
        · rfl
        · rfl
      rotate_left 3
      · exact Hp.at_push_eq
      · exact hc e
      · exact s5
      · simp; done
      · simp; done
    rintro _ Hxj21 ⟨⟨idj18, rfl, lj19, hj20⟩, xj21⟩
    simp at lj19
    have xj21l := HExt.len xj21; try simp at xj21l
    have hj20q := Hp.at_lt hj20
    refine GOps.r rfl rfl rfl rfl (grd_assign rfl rfl) ?_
    refine GOps.nil ?_
    refine GWP.region ?_
    refine GOps.r rfl rfl rfl rfl (grd_add64 rfl rfl rfl ?_) ?_
    · omega
    refine GOps.r rfl rfl rfl rfl (grd_move rfl rfl) ?_
    refine GOps.nil ?_
    refine GRounds.step ?_
    refine GWP.seq ?_
    refine GWP.region ?_
    refine GOps.r rfl rfl rfl rfl (grd_lss rfl rfl rfl) ?_
    refine GOps.nil ?_
    refine GWP.seq ?_
    refine GWP.cond_f rfl ?_ ?_
    · exact decide_eq_false (by omega)
    refine GWP.exit ?_
    refine GWP.seq ?_
    refine GWP.region ?_
    refine GOps.r rfl rfl rfl rfl (grd_move rfl rfl) ?_
    focus
      refine GOps.w rfl rfl rfl rfl (gop_call rfl Try.call104 rfl ?_ (g_seal _ _ _ _ ?_ ?_ ?_)) ?_
      · intro _ h; cases h; done
      rotate_left 1
      focus
        refine bs_row (b := ?_) ?_ ?_ ?_ ?_
        rotate_left 1
        · assumption
        · rfl
        · rfl
        · rfl
      · omega
    rintro _ Hxj25 ⟨pj22, cj23, rfl, sj24, xj25⟩
    have xj25l := HExt.len xj25; try simp at xj25l
    refine GOps.r rfl rfl rfl rfl (grd_assign rfl rfl) ?_
    refine GOps.r rfl rfl rfl rfl (grd_assign rfl rfl) ?_
    refine GOps.nil ?_
    refine GWP.ret ?_
    refine ⟨_, .two (.one rfl) (.one rfl), ?_⟩
    refine ⟨?_, ?_⟩
    focus
      refine ⟨_, _, rfl, ?_⟩
      · assumption
    refine HExt.tr ?_ (by assumption) ?_
    refine HExt.tr ?_ (by assumption) ?_
    refine HExt.push ?_
    refine HExt.tr ?_ (by assumption) ?_
    refine HExt.push ?_
    refine HExt.tr ?_ (by assumption) ?_
    refine HExt.push ?_
    refine HExt.tr ?_ (by assumption) ?_
    refine HExt.push ?_
    refine HExt.tr ?_ (by assumption) ?_
    refine HExt.push ?_
    refine HExt.push ?_
    refine HExt.put ?_ ?_
    refine HExt.push ?_
    · assumption
    · exact .inr (by omega)
    · intro _ h; cases h; done
    · intro _ h; cases h; done
    · intro _ h; cases h; done
    · intro _ h; cases h; done
    · intro _ h; cases h; done
    · intro _ h; cases h; done
set_option maxHeartbeats 4000000 in
set_option maxRecDepth 100000 in
set_option linter.unusedSimpArgs false in
theorem g_sbytesT0 (H : Hp) (a b c d : Int) (l : Bool) (hr : ¬ (okN a ∧ okN b ∧ okN c ∧ okN d)) : GCalls Try.prog 49 [.iface 94 (.agg #[.int .i64 a, .int .i64 b, .int .i64 c, .int .i64 d, .bool l])] [] H fun v H' => v = .tuple #[.slice none 0 0, .int .i64 1] ∧ HExt [] H H' := by
  have hN := fun H => g_numT H a b c d l
  unfold okN at hr
  obtain ⟨z, hz, hz2⟩ : ∃ z : Int, (if l then (1 : Int) else 0) = z ∧ 0 ≤ z ∧ z ≤ 1 := ⟨_, rfl, by cases l <;> simp⟩
  rw [hz] at hN
  have hk0 : (84 : Int) = ((84 : UInt8).toNat : Int) := rfl
  have hP : ∀ (H : Hp) (p : Option Addr) (n c : Nat) (B : List UInt8) (_hb : BS H (.slice p n c) B) (_hB : B.length ≤ 100) (j cm : Nat) (t : TypeId) (rw : Bool) (cs : List Value) (_hj : H.at j = some ⟨t, 1, cs, rw⟩) (z : Int) (_hcs : cs = [.int .u64 z]) (_h0 : 0 ≤ z) (_h1 : z ≤ 1073741824), GCalls Try.prog 105 [.slice p n c, .slice (some ⟨j, 0, none⟩) 1 cm] [] H fun v H' => (∃ id B', v = .slice (some ⟨id, 0, none⟩) B'.length capU ∧ H.length ≤ id ∧ H'.at id = some ⟨5, 1, vb B', true⟩ ∧ 0 < B'.length ∧ B'.length ≤ B.length + 10) ∧ HExt [] H H' := fun H p n c B hb hB j cm t rw cs hj z hcs h0 h1 => by
    subst hcs
    obtain ⟨k, rfl⟩ : ∃ k : Nat, z = (k : Int) := ⟨z.toNat, by omega⟩
    have hl : (B ++ encs [k]).length ≤ B.length + 10 := by
      have := enc_le k (by omega)
      simp [encs_cons, encs_nil]
      omega
    have hl0 : 0 < (B ++ encs [k]).length := by
      have := enc_pos k
      simp [encs_cons, encs_nil]
      omega
    refine (g_put H p n c B hb j cm [k] t rw _ hj rfl (fun x hx => by rw [List.mem_singleton] at hx; omega) (by omega) (by simp) (by simp)).mono fun v H' h => ?_
    obtain ⟨⟨id, e1, e2, e3⟩, x⟩ := h
    exact ⟨⟨id, _, e1, e2, e3, hl0, hl⟩, x⟩
  refine GCalls.body tab_is Try.func49 rfl Try.results49 Try.ntmps49 (by simp) ?_ ?_
  · first | (intro _ h; cases h; done) | (simp; done) | (simp; omega) | (intro i hi; simp at hi; rcases hi with rfl | rfl <;> omega) | (intro i hi; simp at hi; rcases hi with rfl | rfl | rfl <;> omega)
  focus
    refine GWP.seq ?_
    refine GWP.region ?_
    refine GOps.r rfl rfl rfl rfl (grd_assign rfl rfl) ?_
    refine GOps.r rfl rfl rfl rfl (grd_assign rfl rfl) ?_
    refine GOps.nil ?_
    refine GWP.seq ?_
    refine GWP.seq ?_
    refine GWP.region ?_
    refine GOps.r rfl rfl rfl rfl (grd_move rfl rfl) ?_
    refine GOps.r rfl rfl rfl rfl (grd_ieq tab_is rfl rfl rfl rfl) ?_
    refine GOps.nil ?_
    refine GWP.cond_f rfl ?_ ?_
    · with_reducible rfl
    refine GWP.skip ?_
    refine GWP.seq ?_
    refine GWP.region ?_
    refine GOps.r rfl rfl rfl rfl (grd_move rfl rfl) ?_
    refine GOps.w rfl rfl rfl rfl (gop_invoke (xs := []) rfl rfl (by kernel_rfl) Try.call193 rfl ?_ (hN _)) ?_
    · intro _ h; cases h; done
    rintro _ Hxk1 ⟨rfl, xk1⟩
    have xk1l := HExt.len xk1; try simp at xk1l
    refine GOps.r rfl rfl rfl rfl (grd_move rfl rfl) ?_
    focus
      refine GOps.r rfl rfl rfl rfl (grd_extract (v := ?_) rfl rfl ?_) ?_
      rotate_left 1
      · simp only [List.getElem?_toArray, List.getElem?_cons_zero, List.getElem?_cons_succ]; rfl
    focus
      refine GOps.r rfl rfl rfl rfl (grd_extract (v := ?_) rfl rfl ?_) ?_
      rotate_left 1
      · simp only [List.getElem?_toArray, List.getElem?_cons_zero, List.getElem?_cons_succ]; rfl
    focus
      refine GOps.r rfl rfl rfl rfl (grd_extract (v := ?_) rfl rfl ?_) ?_
      rotate_left 1
      · simp only [List.getElem?_toArray, List.getElem?_cons_zero, List.getElem?_cons_succ]; rfl
    focus
      refine GOps.w1 rfl rfl rfl rfl (gop_alloc' (id := ?_) ?_ tab_is rfl rfl ?_) ?_
      rotate_left 1
      · rfl
      · decide
    refine GOps.r rfl rfl rfl rfl (grd_assign rfl rfl) ?_
    focus
      refine GOps.s rfl rfl rfl (gop_storeC (b := ?_) (cs := ?_) tab_is rfl rfl ?_ rfl rfl ?_ ?_ ?_ ?_ ?_ ?_) ?_
      rotate_left 2
      · rfl
      · rfl
      · exact Hp.at_push_eq
      · rfl
      · exact Nat.le_of_ble_eq_true rfl
      · exact .inr (by omega)
      · simp [splice, Value.cells]; rfl
    refine GOps.r rfl rfl rfl rfl (grd_assign rfl rfl) ?_
    refine GOps.nil ?_
    refine GWP.seq ?_
    refine GWP.region ?_
    refine GOps.r rfl rfl rfl rfl (grd_move rfl rfl) ?_
    focus
      refine GOps.w1 rfl rfl rfl rfl (gop_lit (id := ?_) (cs := ?_) ?_ tab_is rfl rfl rfl ?_ ?_ rfl ?_ ?_) ?_
      rotate_left 2
      · simp; rfl
      · decide
      · decide
      · simp [gfill, gsets, Value.cells]; rfl
      · rfl
    refine GOps.r rfl rfl rfl rfl (grd_assign rfl rfl) ?_
    refine GOps.nil ?_
    refine GWP.seq ?_
    refine GWP.seq ?_
    refine GWP.region ?_
    refine GOps.r rfl rfl rfl rfl (grd_move rfl rfl) ?_
    refine GOps.r rfl rfl rfl rfl (grd_eql rfl rfl rfl) ?_
    refine GOps.nil ?_
    refine GWP.cond_f rfl ?_ ?_
    · exact decide_eq_false (by omega)
    refine GWP.skip ?_
    refine GWP.seq ?_
    refine GWP.seq ?_
    refine GWP.region ?_
    focus
      refine GOps.r rfl rfl rfl rfl (grd_loadNK (b := ?_) (cs := ?_) tab_is rfl rfl rfl rfl ?_ ?_ ?_) ?_
      rotate_left 2
      refine (Hp.at_push_lt ?_).trans ?_
      · simp; done
      refine Hp.at_put_eq ?_
      · simp; done
      · exact Nat.le_of_ble_eq_true rfl
      · simp [Value.cells]; rfl
    refine GOps.r rfl rfl rfl rfl (grd_move rfl rfl) ?_
    refine GOps.nil ?_
    refine GWP.block ?_
    refine GWP.loopN 6 ?_
    refine GRounds.step ?_
    refine GWP.seq ?_
    refine GWP.region ?_
    refine GOps.r rfl rfl rfl rfl (grd_lss rfl rfl rfl) ?_
    refine GOps.nil ?_
    refine GWP.seq ?_
    refine GWP.cond_t rfl ?_ ?_
    · exact decide_eq_true (by omega)
    refine GWP.skip ?_
    refine GWP.seq ?_
    refine GWP.block ?_
    refine GWP.seq ?_
    refine GWP.region ?_
    focus
      refine GOps.r rfl rfl rfl rfl (grd_indexV1 (v := ?_) tab_is rfl rfl rfl rfl rfl rfl rfl ?_ ?_ ?_) ?_
      rotate_left 1
      · omega
      · omega
      · simp only [List.getElem?_toArray, List.getElem?_cons_zero, List.getElem?_cons_succ]; rfl
    refine GOps.r rfl rfl rfl rfl (grd_assign rfl rfl) ?_
    refine GOps.nil ?_
    refine GWP.seq ?_
    refine GWP.seq ?_
    refine GWP.region ?_
    refine GOps.r rfl rfl rfl rfl (grd_move rfl rfl) ?_
    refine GOps.r rfl rfl rfl rfl (grd_lss rfl rfl rfl) ?_
    refine GOps.r rfl rfl rfl rfl (grd_move rfl rfl) ?_
    refine GOps.split rfl rfl (fun k2 => ?_) (fun k2 => ?_)
    simp only [beq_true, beq_false, Bool.not_true, Bool.not_false, Bool.not_eq_true', Bool.not_eq_false', decide_eq_true_eq, decide_eq_false_iff_not] at k2
    refine GOps.take rfl rfl ?_ ?_
    · exact beq_iff_eq.2 (decide_eq_false (by assumption))
    refine GOps.r rfl rfl rfl rfl (grd_move rfl rfl) ?_
    refine GOps.take rfl rfl ?_ ?_
    · exact beq_iff_eq.2 (decide_eq_false (by assumption))
    refine GOps.r rfl rfl rfl rfl (grd_gtr rfl rfl rfl) ?_
    refine GOps.r rfl rfl rfl rfl (grd_pick_f rfl rfl ?_ rfl) ?_
    · exact decide_eq_false (by assumption)
    refine GOps.nil ?_
    refine GWP.cond rfl (fun k3 => ?_) (fun k3 => ?_)
    simp only [beq_true, beq_false, Bool.not_true, Bool.not_false, Bool.not_eq_true', Bool.not_eq_false', decide_eq_true_eq, decide_eq_false_iff_not] at k3
    refine GWP.seq ?_
    refine GWP.region ?_
    refine GOps.r rfl rfl rfl rfl (grd_assign rfl rfl) ?_
    refine GOps.r rfl rfl rfl rfl (grd_assign rfl rfl) ?_
    refine GOps.nil ?_
    refine GWP.ret ?_
    refine ⟨_, .two (.one rfl) (.one rfl), ?_⟩
    refine ⟨?_, ?_⟩
    · rfl
    refine HExt.push ?_
    refine HExt.put ?_ ?_
    refine HExt.push ?_
    · assumption
    · exact .inr (by omega)
    simp only [beq_true, beq_false, Bool.not_true, Bool.not_false, Bool.not_eq_true', Bool.not_eq_false', decide_eq_true_eq, decide_eq_false_iff_not] at k3
    refine GWP.skip ?_
    refine GWP.region ?_
    refine GOps.r rfl rfl rfl rfl (grd_move rfl rfl) ?_
    refine GOps.r rfl rfl rfl rfl (grd_move rfl rfl) ?_
    refine GOps.r rfl rfl rfl rfl (grd_conv_in tab_is rfl rfl rfl rfl rfl ?_) ?_
    · refine wrap_u64_in ?_; omega
    focus
      refine GOps.w1 rfl rfl rfl rfl (gop_lit (id := ?_) (cs := ?_) ?_ tab_is rfl rfl rfl ?_ ?_ rfl ?_ ?_) ?_
      rotate_left 2
      · simp; rfl
      · decide
      · decide
      · simp [gfill, gsets, Value.cells]; rfl
      · rfl
    focus
      refine GOps.w rfl rfl rfl rfl (gop_call rfl Try.call105 rfl ?_ (hP _ _ _ _ ?_ ?_ ?_ _ _ ?_ ?_ ?_ ?_ ?_ ?_ ?_ ?_)) ?_
      · intro _ h; cases h; done
      rotate_left 1
      refine bs_b1 (b := ?_) (u := ?_) ?_ ?_ ?_ ?_
      rotate_left 2
      refine (Hp.at_push_lt ?_).trans ?_
      · simp; done
      refine Hp.at_push_id ?_
      · simp; done
      · rfl
      · exact congrArg (fun z : Int => [Value.int .u8 z]) (by assumption)
      · rfl
      · simp; done
      rotate_left 3
      refine Hp.at_push_id ?_
      · simp; done
      rotate_left 1
      · rfl
      · omega
      · omega
    rintro _ Hxk10 ⟨⟨idk4, Bk5, rfl, lk6, hk7, mk8, nk9⟩, xk10⟩
    simp at lk6
    simp at nk9
    have xk10l := HExt.len xk10; try simp at xk10l
    have hk7q := Hp.at_lt hk7
    try simp only [List.length_singleton] at lk6
    try simp only [List.length_singleton] at nk9
    refine GOps.r rfl rfl rfl rfl (grd_assign rfl rfl) ?_
    refine GOps.nil ?_
    refine GWP.region ?_
    refine GOps.r rfl rfl rfl rfl (grd_add64 rfl rfl rfl ?_) ?_
    · omega
    refine GOps.r rfl rfl rfl rfl (grd_move rfl rfl) ?_
    refine GOps.nil ?_
    refine GRounds.step ?_
    refine GWP.seq ?_
    refine GWP.region ?_
    refine GOps.r rfl rfl rfl rfl (grd_lss rfl rfl rfl) ?_
    refine GOps.nil ?_
    refine GWP.seq ?_
    refine GWP.cond_t rfl ?_ ?_
    · exact decide_eq_true (by omega)
    refine GWP.skip ?_
    refine GWP.seq ?_
    refine GWP.block ?_
    refine GWP.seq ?_
    refine GWP.region ?_
    focus
      refine GOps.r rfl rfl rfl rfl (grd_indexV1 (v := ?_) tab_is rfl rfl rfl rfl rfl rfl rfl ?_ ?_ ?_) ?_
      rotate_left 1
      · omega
      · omega
      · simp only [List.getElem?_toArray, List.getElem?_cons_zero, List.getElem?_cons_succ]; rfl
    refine GOps.r rfl rfl rfl rfl (grd_assign rfl rfl) ?_
    refine GOps.nil ?_
    refine GWP.seq ?_
    refine GWP.seq ?_
    refine GWP.region ?_
    refine GOps.r rfl rfl rfl rfl (grd_move rfl rfl) ?_
    refine GOps.r rfl rfl rfl rfl (grd_lss rfl rfl rfl) ?_
    refine GOps.r rfl rfl rfl rfl (grd_move rfl rfl) ?_
    refine GOps.split rfl rfl (fun k11 => ?_) (fun k11 => ?_)
    simp only [beq_true, beq_false, Bool.not_true, Bool.not_false, Bool.not_eq_true', Bool.not_eq_false', decide_eq_true_eq, decide_eq_false_iff_not] at k11
    refine GOps.take rfl rfl ?_ ?_
    · exact beq_iff_eq.2 (decide_eq_false (by assumption))
    refine GOps.r rfl rfl rfl rfl (grd_move rfl rfl) ?_
    refine GOps.take rfl rfl ?_ ?_
    · exact beq_iff_eq.2 (decide_eq_false (by assumption))
    refine GOps.r rfl rfl rfl rfl (grd_gtr rfl rfl rfl) ?_
    refine GOps.r rfl rfl rfl rfl (grd_pick_f rfl rfl ?_ rfl) ?_
    · exact decide_eq_false (by assumption)
    refine GOps.nil ?_
    refine GWP.cond rfl (fun k12 => ?_) (fun k12 => ?_)
    simp only [beq_true, beq_false, Bool.not_true, Bool.not_false, Bool.not_eq_true', Bool.not_eq_false', decide_eq_true_eq, decide_eq_false_iff_not] at k12
    refine GWP.seq ?_
    refine GWP.region ?_
    refine GOps.r rfl rfl rfl rfl (grd_assign rfl rfl) ?_
    refine GOps.r rfl rfl rfl rfl (grd_assign rfl rfl) ?_
    refine GOps.nil ?_
    refine GWP.ret ?_
    refine ⟨_, .two (.one rfl) (.one rfl), ?_⟩
    refine ⟨?_, ?_⟩
    · rfl
    refine HExt.tr ?_ (by assumption) ?_
    refine HExt.push ?_
    refine HExt.push ?_
    refine HExt.put ?_ ?_
    refine HExt.push ?_
    · assumption
    · exact .inr (by omega)
    · intro _ h; cases h; done
    simp only [beq_true, beq_false, Bool.not_true, Bool.not_false, Bool.not_eq_true', Bool.not_eq_false', decide_eq_true_eq, decide_eq_false_iff_not] at k12
    refine GWP.skip ?_
    refine GWP.region ?_
    refine GOps.r rfl rfl rfl rfl (grd_move rfl rfl) ?_
    refine GOps.r rfl rfl rfl rfl (grd_move rfl rfl) ?_
    refine GOps.r rfl rfl rfl rfl (grd_conv_in tab_is rfl rfl rfl rfl rfl ?_) ?_
    · refine wrap_u64_in ?_; omega
    focus
      refine GOps.w1 rfl rfl rfl rfl (gop_lit (id := ?_) (cs := ?_) ?_ tab_is rfl rfl rfl ?_ ?_ rfl ?_ ?_) ?_
      rotate_left 2
      · rfl
      · decide
      · decide
      · simp [gfill, gsets, Value.cells]; rfl
      · rfl
    focus
      refine GOps.w rfl rfl rfl rfl (gop_call rfl Try.call105 rfl ?_ (hP _ _ _ _ ?_ ?_ ?_ _ _ ?_ ?_ ?_ ?_ ?_ ?_ ?_ ?_)) ?_
      · intro _ h; cases h; done
      rotate_left 1
      focus
        refine bs_pushed ?_
        refine bs_row (b := ?_) ?_ ?_ ?_ ?_
        rotate_left 1
        · assumption
        · rfl
        · rfl
        · rfl
      · omega
      rotate_left 3
      · exact Hp.at_push_eq
      rotate_left 1
      · rfl
      · omega
      · omega
    rintro _ Hxk19 ⟨⟨idk13, Bk14, rfl, lk15, hk16, mk17, nk18⟩, xk19⟩
    simp at lk15
    have xk19l := HExt.len xk19; try simp at xk19l
    have hk16q := Hp.at_lt hk16
    try simp only [List.length_singleton] at lk15
    try simp only [List.length_singleton] at nk18
    refine GOps.r rfl rfl rfl rfl (grd_assign rfl rfl) ?_
    refine GOps.nil ?_
    refine GWP.region ?_
    refine GOps.r rfl rfl rfl rfl (grd_add64 rfl rfl rfl ?_) ?_
    · omega
    refine GOps.r rfl rfl rfl rfl (grd_move rfl rfl) ?_
    refine GOps.nil ?_
    refine GRounds.step ?_
    refine GWP.seq ?_
    refine GWP.region ?_
    refine GOps.r rfl rfl rfl rfl (grd_lss rfl rfl rfl) ?_
    refine GOps.nil ?_
    refine GWP.seq ?_
    refine GWP.cond_t rfl ?_ ?_
    · exact decide_eq_true (by omega)
    refine GWP.skip ?_
    refine GWP.seq ?_
    refine GWP.block ?_
    refine GWP.seq ?_
    refine GWP.region ?_
    focus
      refine GOps.r rfl rfl rfl rfl (grd_indexV1 (v := ?_) tab_is rfl rfl rfl rfl rfl rfl rfl ?_ ?_ ?_) ?_
      rotate_left 1
      · omega
      · omega
      · simp only [List.getElem?_toArray, List.getElem?_cons_zero, List.getElem?_cons_succ]; rfl
    refine GOps.r rfl rfl rfl rfl (grd_assign rfl rfl) ?_
    refine GOps.nil ?_
    refine GWP.seq ?_
    refine GWP.seq ?_
    refine GWP.region ?_
    refine GOps.r rfl rfl rfl rfl (grd_move rfl rfl) ?_
    refine GOps.r rfl rfl rfl rfl (grd_lss rfl rfl rfl) ?_
    refine GOps.r rfl rfl rfl rfl (grd_move rfl rfl) ?_
    refine GOps.split rfl rfl (fun k20 => ?_) (fun k20 => ?_)
    simp only [beq_true, beq_false, Bool.not_true, Bool.not_false, Bool.not_eq_true', Bool.not_eq_false', decide_eq_true_eq, decide_eq_false_iff_not] at k20
    refine GOps.take rfl rfl ?_ ?_
    · exact beq_iff_eq.2 (decide_eq_false (by assumption))
    refine GOps.r rfl rfl rfl rfl (grd_move rfl rfl) ?_
    refine GOps.take rfl rfl ?_ ?_
    · exact beq_iff_eq.2 (decide_eq_false (by assumption))
    refine GOps.r rfl rfl rfl rfl (grd_gtr rfl rfl rfl) ?_
    refine GOps.r rfl rfl rfl rfl (grd_pick_f rfl rfl ?_ rfl) ?_
    · exact decide_eq_false (by assumption)
    refine GOps.nil ?_
    refine GWP.cond rfl (fun k21 => ?_) (fun k21 => ?_)
    simp only [beq_true, beq_false, Bool.not_true, Bool.not_false, Bool.not_eq_true', Bool.not_eq_false', decide_eq_true_eq, decide_eq_false_iff_not] at k21
    refine GWP.seq ?_
    refine GWP.region ?_
    refine GOps.r rfl rfl rfl rfl (grd_assign rfl rfl) ?_
    refine GOps.r rfl rfl rfl rfl (grd_assign rfl rfl) ?_
    refine GOps.nil ?_
    refine GWP.ret ?_
    refine ⟨_, .two (.one rfl) (.one rfl), ?_⟩
    refine ⟨?_, ?_⟩
    · rfl
    refine HExt.tr ?_ (by assumption) ?_
    refine HExt.push ?_
    refine HExt.tr ?_ (by assumption) ?_
    refine HExt.push ?_
    refine HExt.push ?_
    refine HExt.put ?_ ?_
    refine HExt.push ?_
    · assumption
    · exact .inr (by omega)
    · intro _ h; cases h; done
    · intro _ h; cases h; done
    simp only [beq_true, beq_false, Bool.not_true, Bool.not_false, Bool.not_eq_true', Bool.not_eq_false', decide_eq_true_eq, decide_eq_false_iff_not] at k21
    refine GWP.skip ?_
    refine GWP.region ?_
    refine GOps.r rfl rfl rfl rfl (grd_move rfl rfl) ?_
    refine GOps.r rfl rfl rfl rfl (grd_move rfl rfl) ?_
    refine GOps.r rfl rfl rfl rfl (grd_conv_in tab_is rfl rfl rfl rfl rfl ?_) ?_
    · refine wrap_u64_in ?_; omega
    focus
      refine GOps.w1 rfl rfl rfl rfl (gop_lit (id := ?_) (cs := ?_) ?_ tab_is rfl rfl rfl ?_ ?_ rfl ?_ ?_) ?_
      rotate_left 2
      · rfl
      · decide
      · decide
      · simp [gfill, gsets, Value.cells]; rfl
      · rfl
    focus
      refine GOps.w rfl rfl rfl rfl (gop_call rfl Try.call105 rfl ?_ (hP _ _ _ _ ?_ ?_ ?_ _ _ ?_ ?_ ?_ ?_ ?_ ?_ ?_ ?_)) ?_
      · intro _ h; cases h; done
      rotate_left 1
      focus
        refine bs_pushed ?_
        refine bs_row (b := ?_) ?_ ?_ ?_ ?_
        rotate_left 1
        · assumption
        · rfl
        · rfl
        · rfl
      · omega
      rotate_left 3
      · exact Hp.at_push_eq
      rotate_left 1
      · rfl
      · omega
      · omega
    rintro _ Hxk28 ⟨⟨idk22, Bk23, rfl, lk24, hk25, mk26, nk27⟩, xk28⟩
    simp at lk24
    have xk28l := HExt.len xk28; try simp at xk28l
    have hk25q := Hp.at_lt hk25
    try simp only [List.length_singleton] at lk24
    try simp only [List.length_singleton] at nk27
    refine GOps.r rfl rfl rfl rfl (grd_assign rfl rfl) ?_
    refine GOps.nil ?_
    refine GWP.region ?_
    refine GOps.r rfl rfl rfl rfl (grd_add64 rfl rfl rfl ?_) ?_
    · omega
    refine GOps.r rfl rfl rfl rfl (grd_move rfl rfl) ?_
    refine GOps.nil ?_
    refine GRounds.step ?_
    refine GWP.seq ?_
    refine GWP.region ?_
    refine GOps.r rfl rfl rfl rfl (grd_lss rfl rfl rfl) ?_
    refine GOps.nil ?_
    refine GWP.seq ?_
    refine GWP.cond_t rfl ?_ ?_
    · exact decide_eq_true (by omega)
    refine GWP.skip ?_
    refine GWP.seq ?_
    refine GWP.block ?_
    refine GWP.seq ?_
    refine GWP.region ?_
    focus
      refine GOps.r rfl rfl rfl rfl (grd_indexV1 (v := ?_) tab_is rfl rfl rfl rfl rfl rfl rfl ?_ ?_ ?_) ?_
      rotate_left 1
      · omega
      · omega
      · simp only [List.getElem?_toArray, List.getElem?_cons_zero, List.getElem?_cons_succ]; rfl
    refine GOps.r rfl rfl rfl rfl (grd_assign rfl rfl) ?_
    refine GOps.nil ?_
    refine GWP.seq ?_
    refine GWP.seq ?_
    refine GWP.region ?_
    refine GOps.r rfl rfl rfl rfl (grd_move rfl rfl) ?_
    refine GOps.r rfl rfl rfl rfl (grd_lss rfl rfl rfl) ?_
    refine GOps.r rfl rfl rfl rfl (grd_move rfl rfl) ?_
    refine GOps.split rfl rfl (fun k29 => ?_) (fun k29 => ?_)
    simp only [beq_true, beq_false, Bool.not_true, Bool.not_false, Bool.not_eq_true', Bool.not_eq_false', decide_eq_true_eq, decide_eq_false_iff_not] at k29
    refine GOps.take rfl rfl ?_ ?_
    · exact beq_iff_eq.2 (decide_eq_false (by assumption))
    refine GOps.r rfl rfl rfl rfl (grd_move rfl rfl) ?_
    refine GOps.take rfl rfl ?_ ?_
    · exact beq_iff_eq.2 (decide_eq_false (by assumption))
    refine GOps.r rfl rfl rfl rfl (grd_gtr rfl rfl rfl) ?_
    refine GOps.r rfl rfl rfl rfl (grd_pick_f rfl rfl ?_ rfl) ?_
    · exact decide_eq_false (by assumption)
    refine GOps.nil ?_
    refine GWP.cond_t rfl ?_ ?_
    · exact decide_eq_true (by omega)
    refine GWP.seq ?_
    refine GWP.region ?_
    refine GOps.r rfl rfl rfl rfl (grd_assign rfl rfl) ?_
    refine GOps.r rfl rfl rfl rfl (grd_assign rfl rfl) ?_
    refine GOps.nil ?_
    refine GWP.ret ?_
    refine ⟨_, .two (.one rfl) (.one rfl), ?_⟩
    refine ⟨?_, ?_⟩
    · rfl
    refine HExt.tr ?_ (by assumption) ?_
    refine HExt.push ?_
    refine HExt.tr ?_ (by assumption) ?_
    refine HExt.push ?_
    refine HExt.tr ?_ (by assumption) ?_
    refine HExt.push ?_
    refine HExt.push ?_
    refine HExt.put ?_ ?_
    refine HExt.push ?_
    · assumption
    · exact .inr (by omega)
    · intro _ h; cases h; done
    · intro _ h; cases h; done
    · intro _ h; cases h; done
    simp only [beq_true, beq_false, Bool.not_true, Bool.not_false, Bool.not_eq_true', Bool.not_eq_false', decide_eq_true_eq, decide_eq_false_iff_not] at k29
    refine GOps.no rfl ?_ rfl rfl ?_
    · exact beq_eq_false_iff_ne.2 (by rw [decide_eq_true (by assumption)]; decide)
    refine GOps.no rfl ?_ rfl rfl ?_
    · exact beq_eq_false_iff_ne.2 (by rw [decide_eq_true (by assumption)]; decide)
    refine GOps.r rfl rfl rfl rfl (grd_pick_t rfl rfl ?_ rfl) ?_
    · exact decide_eq_true (by assumption)
    refine GOps.nil ?_
    refine GWP.cond_t rfl ?_ ?_
    · with_reducible rfl
    refine GWP.seq ?_
    refine GWP.region ?_
    refine GOps.r rfl rfl rfl rfl (grd_assign rfl rfl) ?_
    refine GOps.r rfl rfl rfl rfl (grd_assign rfl rfl) ?_
    refine GOps.nil ?_
    refine GWP.ret ?_
    refine ⟨_, .two (.one rfl) (.one rfl), ?_⟩
    refine ⟨?_, ?_⟩
    · rfl
    refine HExt.tr ?_ (by assumption) ?_
    refine HExt.push ?_
    refine HExt.tr ?_ (by assumption) ?_
    refine HExt.push ?_
    refine HExt.tr ?_ (by assumption) ?_
    refine HExt.push ?_
    refine HExt.push ?_
    refine HExt.put ?_ ?_
    refine HExt.push ?_
    · assumption
    · exact .inr (by omega)
    · intro _ h; cases h; done
    · intro _ h; cases h; done
    · intro _ h; cases h; done
    simp only [beq_true, beq_false, Bool.not_true, Bool.not_false, Bool.not_eq_true', Bool.not_eq_false', decide_eq_true_eq, decide_eq_false_iff_not] at k20
    refine GOps.no rfl ?_ rfl rfl ?_
    · exact beq_eq_false_iff_ne.2 (by rw [decide_eq_true (by assumption)]; decide)
    refine GOps.no rfl ?_ rfl rfl ?_
    · exact beq_eq_false_iff_ne.2 (by rw [decide_eq_true (by assumption)]; decide)
    refine GOps.r rfl rfl rfl rfl (grd_pick_t rfl rfl ?_ rfl) ?_
    · exact decide_eq_true (by assumption)
    refine GOps.nil ?_
    refine GWP.cond_t rfl ?_ ?_
    · with_reducible rfl
    refine GWP.seq ?_
    refine GWP.region ?_
    refine GOps.r rfl rfl rfl rfl (grd_assign rfl rfl) ?_
    refine GOps.r rfl rfl rfl rfl (grd_assign rfl rfl) ?_
    refine GOps.nil ?_
    refine GWP.ret ?_
    refine ⟨_, .two (.one rfl) (.one rfl), ?_⟩
    refine ⟨?_, ?_⟩
    · rfl
    refine HExt.tr ?_ (by assumption) ?_
    refine HExt.push ?_
    refine HExt.tr ?_ (by assumption) ?_
    refine HExt.push ?_
    refine HExt.push ?_
    refine HExt.put ?_ ?_
    refine HExt.push ?_
    · assumption
    · exact .inr (by omega)
    · intro _ h; cases h; done
    · intro _ h; cases h; done
    simp only [beq_true, beq_false, Bool.not_true, Bool.not_false, Bool.not_eq_true', Bool.not_eq_false', decide_eq_true_eq, decide_eq_false_iff_not] at k11
    refine GOps.no rfl ?_ rfl rfl ?_
    · exact beq_eq_false_iff_ne.2 (by rw [decide_eq_true (by assumption)]; decide)
    refine GOps.no rfl ?_ rfl rfl ?_
    · exact beq_eq_false_iff_ne.2 (by rw [decide_eq_true (by assumption)]; decide)
    refine GOps.r rfl rfl rfl rfl (grd_pick_t rfl rfl ?_ rfl) ?_
    · exact decide_eq_true (by assumption)
    refine GOps.nil ?_
    refine GWP.cond_t rfl ?_ ?_
    · with_reducible rfl
    refine GWP.seq ?_
    refine GWP.region ?_
    refine GOps.r rfl rfl rfl rfl (grd_assign rfl rfl) ?_
    refine GOps.r rfl rfl rfl rfl (grd_assign rfl rfl) ?_
    refine GOps.nil ?_
    refine GWP.ret ?_
    refine ⟨_, .two (.one rfl) (.one rfl), ?_⟩
    refine ⟨?_, ?_⟩
    · rfl
    refine HExt.tr ?_ (by assumption) ?_
    refine HExt.push ?_
    refine HExt.push ?_
    refine HExt.put ?_ ?_
    refine HExt.push ?_
    · assumption
    · exact .inr (by omega)
    · intro _ h; cases h; done
    simp only [beq_true, beq_false, Bool.not_true, Bool.not_false, Bool.not_eq_true', Bool.not_eq_false', decide_eq_true_eq, decide_eq_false_iff_not] at k2
    refine GOps.no rfl ?_ rfl rfl ?_
    · exact beq_eq_false_iff_ne.2 (by rw [decide_eq_true (by assumption)]; decide)
    refine GOps.no rfl ?_ rfl rfl ?_
    · exact beq_eq_false_iff_ne.2 (by rw [decide_eq_true (by assumption)]; decide)
    refine GOps.r rfl rfl rfl rfl (grd_pick_t rfl rfl ?_ rfl) ?_
    · exact decide_eq_true (by assumption)
    refine GOps.nil ?_
    refine GWP.cond_t rfl ?_ ?_
    · with_reducible rfl
    refine GWP.seq ?_
    refine GWP.region ?_
    refine GOps.r rfl rfl rfl rfl (grd_assign rfl rfl) ?_
    refine GOps.r rfl rfl rfl rfl (grd_assign rfl rfl) ?_
    refine GOps.nil ?_
    refine GWP.ret ?_
    refine ⟨_, .two (.one rfl) (.one rfl), ?_⟩
    refine ⟨?_, ?_⟩
    · rfl
    refine HExt.push ?_
    refine HExt.put ?_ ?_
    refine HExt.push ?_
    · assumption
    · exact .inr (by omega)
end Go.Proofs.Ytcbngjpihcemiaa

/- Plain facts: numbers read of what was put. -/
namespace Go.Proofs.Ytcbngjpihcemiaa
open Go.RowKit

theorem nextL_enc2 (d : Nat) : ∀ (i a N : Nat) (r : List UInt8), N < 128 ^ (d + 1) → i + d ≤ 9 → (i + d = 9 → N < 2 * 128 ^ d) → (0 < i → 0 < N) → nextL i a (enc N ++ r) = (a + N * 128 ^ i, i + (enc N).length, 0) := by
  induction d with
  | zero =>
    intro i a N r hN hi h9 h0
    have hN' : N < 128 := by simpa using hN
    have hb : (UInt8.ofNat N).toNat = N := by simp; omega
    rw [enc_lt hN', List.singleton_append, nextL_cons, hb, if_neg, if_pos hN', Nat.mod_eq_of_lt hN']
    · rfl
    · intro h
      rcases h with ⟨h1, h2⟩ | ⟨h1, h2⟩
      · have := h9 (by omega)
        simp at this
        omega
      · have := h0 h1
        omega
  | succ d ih =>
    intro i a N r hN hi h9 h0
    by_cases hN' : N < 128
    · have hb : (UInt8.ofNat N).toNat = N := by simp; omega
      rw [enc_lt hN', List.singleton_append, nextL_cons, hb, if_neg, if_pos hN', Nat.mod_eq_of_lt hN']
      · rfl
      · intro h
        rcases h with ⟨h1, h2⟩ | ⟨h1, h2⟩
        · omega
        · have := h0 h1
          omega
    · have hb : (UInt8.ofNat (N % 128 + 128)).toNat = N % 128 + 128 := by simp; omega
      have hp : (128 : Nat) ^ (d + 1 + 1) = 128 * 128 ^ (d + 1) := by rw [Nat.pow_succ, Nat.mul_comm]
      have hp2 : (128 : Nat) ^ (d + 1) = 128 * 128 ^ d := by rw [Nat.pow_succ, Nat.mul_comm]
      have hrec := ih (i + 1) (a + N % 128 * 128 ^ i) (N / 128) r (by omega) (by omega) (fun h => by have := h9 (by omega); omega) (fun _ => by omega)
      rw [enc_ge hN', List.cons_append, nextL_cons, hb, if_neg (by omega), if_neg (by omega), show (N % 128 + 128) % 128 = N % 128 from by omega, hrec]
      refine Prod.ext ?_ (Prod.ext ?_ rfl)
      · show a + N % 128 * 128 ^ i + N / 128 * 128 ^ (i + 1) = a + N * 128 ^ i
        have e : N * 128 ^ i = N % 128 * 128 ^ i + N / 128 * 128 ^ (i + 1) := by
          rw [Nat.pow_succ, Nat.mul_comm (128 ^ i) 128, ← Nat.mul_assoc, ← Nat.add_mul]
          congr 1
          omega
        omega
      · show i + 1 + (enc (N / 128)).length = i + (UInt8.ofNat (N % 128 + 128) :: enc (N / 128)).length
        simp only [List.length_cons]
        omega
theorem next_enc2 (N : Nat) (r : List UInt8) (h : N < 18446744073709551616) : next (enc N ++ r) = (N, (enc N).length, 0) := by
  have h1 : N < 128 ^ (9 + 1) := by rw [Nat.pow_succ, p128_9]; omega
  have := nextL_enc2 9 0 0 N r h1 (by omega) (fun _ => by rw [p128_9]; omega) (fun h => absurd h (by omega))
  simpa [next] using this
theorem number_enc2 (N most : Nat) (r : List UInt8) (h : N < 18446744073709551616) (hm : N ≤ most) : RdS.number ⟨enc N ++ r, 0⟩ most = (N, ⟨r, 0⟩) := by
  have hn := next_enc2 N r h
  unfold RdS.number
  simp only [hn]
  rw [if_neg (by simp), if_neg (by simp), if_neg (by omega)]
  simp
end Go.Proofs.Ytcbngjpihcemiaa

/- Blocks of a segment: sealed ones read, the document's bytes, a tape's. -/
namespace Go.Proofs.Ytcbngjpihcemiaa
open Go.RowKit

theorem open_sealP (b : List UInt8) : openL (sealL b) = some b := by
  unfold openL
  have e : (sealL b).take ((sealL b).length - 4) = b := by
    rw [sealL_length, Nat.add_sub_cancel]
    unfold sealL
    rw [List.take_left']
    rfl
  rw [e, if_pos ⟨by rw [sealL_length]; omega, rfl⟩]
theorem segL_is (k : UInt8) (a b c d e : Nat) : segL k a b c d e = k :: (enc a ++ (enc b ++ (enc c ++ (enc d ++ (enc e ++ []))))) := by
  simp [segL, encs_cons, encs_nil]
theorem segL_len (k : UInt8) (a b c d e : Nat) (h1 : a ≤ 1073741824) (h2 : b ≤ 1073741824) (h3 : c ≤ 1073741824) (h4 : d ≤ 1073741824) (h5 : e ≤ 1073741824) : (segL k a b c d e).length ≤ 51 := by
  have ea := enc_le a (by omega)
  have eb := enc_le b (by omega)
  have ec := enc_le c (by omega)
  have ed := enc_le d (by omega)
  have ee := enc_le e (by omega)
  rw [segL_is]
  simp only [List.length_cons, List.length_append, List.length_nil]
  omega
section
variable {a b c d e : Nat} (h1 : a ≤ 1073741824) (h2 : b ≤ 1073741824) (h3 : c ≤ 1073741824) (h4 : d ≤ 1073741824) (h5 : e ≤ 1073741824)
include h1 h2 h3 h4 h5
theorem nums_read : RdS.number ⟨enc a ++ (enc b ++ (enc c ++ (enc d ++ (enc e ++ [])))), 0⟩ segTop = (a, ⟨enc b ++ (enc c ++ (enc d ++ (enc e ++ []))), 0⟩) ∧ RdS.number ⟨enc b ++ (enc c ++ (enc d ++ (enc e ++ []))), 0⟩ segTop = (b, ⟨enc c ++ (enc d ++ (enc e ++ [])), 0⟩) ∧ RdS.number ⟨enc c ++ (enc d ++ (enc e ++ [])), 0⟩ segTop = (c, ⟨enc d ++ (enc e ++ []), 0⟩) ∧ RdS.number ⟨enc d ++ (enc e ++ []), 0⟩ segTop = (d, ⟨enc e ++ [], 0⟩) ∧ RdS.number ⟨enc e ++ [], 0⟩ segTop = (e, ⟨[], 0⟩) := by
  unfold segTop
  exact ⟨number_enc2 _ _ _ (by omega) h1, number_enc2 _ _ _ (by omega) h2, number_enc2 _ _ _ (by omega) h3, number_enc2 _ _ _ (by omega) h4, number_enc2 _ _ _ (by omega) h5⟩
theorem segO_head : segO (sealL (segL 72 a b c d e)) = .head a b c d e := by
  obtain ⟨e1, e2, e3, e4, e5⟩ := nums_read h1 h2 h3 h4 h5
  rw [segL_is, segO, open_sealP]
  simp only [e1, e2, e3, e4, e5]
  rw [if_neg (by rintro ⟨h, _⟩; exact absurd h (by decide)), segN, if_neg (by simp [RdS.fin]), if_pos (show UInt8.toNat 72 = 72 by decide)]
theorem segO_fin (h6 : e ≤ 1) : segO (sealL (segL 84 a b c d e)) = .fin a b c d (decide (e = 1)) := by
  obtain ⟨e1, e2, e3, e4, e5⟩ := nums_read h1 h2 h3 h4 h5
  rw [segL_is, segO, open_sealP]
  simp only [e1, e2, e3, e4, e5]
  rw [if_neg (by rintro ⟨h, _⟩; exact absurd h (by decide)), segN, if_neg (by simp [RdS.fin]), if_neg (show ¬ UInt8.toNat 84 = 72 by decide), if_pos ⟨show UInt8.toNat 84 = 84 by decide, h6⟩]
end
theorem segO_data {L : List UInt8} (h : 1 ≤ L.length ∧ L.length ≤ 160) : segO (sealL (68 :: L)) = .data L := by
  rw [segO, open_sealP]
  simp only
  rw [if_pos ⟨(by decide : UInt8.toNat 68 = 68), h⟩]
set_option maxHeartbeats 4000000 in
set_option maxRecDepth 100000 in
set_option linter.unusedSimpArgs false in
theorem g_rbytesD (H : Hp) (L : List UInt8) (hL : 1 ≤ L.length ∧ L.length ≤ 1000000) : GCalls Try.prog 111 [blkV 68 0 0 0 0 0 L] [] H fun v H' => (∃ p' c', v = .slice p' ((68 :: L).length + 4) c' ∧ BS H' (.slice p' ((68 :: L).length + 4) c') (sealL (68 :: L))) ∧ HExt [] H H' := by
  have hk0 : (68 : Int) = ((68 : UInt8).toNat : Int) := rfl
  unfold blkV
  refine GCalls.body tab_is Try.func111 rfl Try.results111 Try.ntmps111 (by simp) ?_ ?_
  · first | (intro _ h; cases h; done) | (simp; done) | (simp; omega) | (intro i hi; simp at hi; rcases hi with rfl | rfl <;> omega) | (intro i hi; simp at hi; rcases hi with rfl | rfl | rfl <;> omega)
  focus
    refine GWP.seq ?_
    refine GWP.region ?_
    focus
      refine GOps.w1 rfl rfl rfl rfl (gop_box' (id := ?_) ?_ rfl rfl rfl) ?_
      rotate_left 1
      · rfl
    refine GOps.r rfl rfl rfl rfl (grd_assign rfl rfl) ?_
    refine GOps.nil ?_
    refine GWP.seq ?_
    refine GWP.region ?_
    refine GOps.r rfl rfl rfl rfl (grd_fieldAddr tab_is rfl rfl rfl rfl rfl) ?_
    focus
      refine GOps.r rfl rfl rfl rfl (grd_load1 (b := ?_) (v := ?_) tab_is rfl rfl rfl rfl ?_ ?_) ?_
      rotate_left 2
      · exact Hp.at_push_eq
      · rfl
    focus
      refine GOps.w1 rfl rfl rfl rfl (gop_lit (id := ?_) (cs := ?_) ?_ tab_is rfl rfl rfl ?_ ?_ rfl ?_ ?_) ?_
      rotate_left 2
      · simp; rfl
      · decide
      · decide
      · simp [gfill, gsets, Value.cells]; rfl
      · rfl
    refine GOps.r rfl rfl rfl rfl (grd_assign rfl rfl) ?_
    refine GOps.nil ?_
    refine GWP.seq ?_
    refine GWP.seq ?_
    refine GWP.region ?_
    refine GOps.r rfl rfl rfl rfl (grd_fieldAddr tab_is rfl rfl rfl rfl rfl) ?_
    focus
      refine GOps.r rfl rfl rfl rfl (grd_load1 (b := ?_) (v := ?_) tab_is rfl rfl rfl rfl ?_ ?_) ?_
      rotate_left 2
      refine (Hp.at_push_lt ?_).trans ?_
      · simp; done
      · exact Hp.at_push_eq
      · rfl
    refine GOps.r rfl rfl rfl rfl (grd_eql rfl rfl rfl) ?_
    refine GOps.nil ?_
    refine GWP.cond_t rfl ?_ ?_
    · exact decide_eq_true (by assumption)
    refine GWP.seq ?_
    refine GWP.region ?_
    refine GOps.r rfl rfl rfl rfl (grd_move rfl rfl) ?_
    refine GOps.r rfl rfl rfl rfl (grd_fieldAddr tab_is rfl rfl rfl rfl rfl) ?_
    focus
      refine GOps.r rfl rfl rfl rfl (grd_load1 (b := ?_) (v := ?_) tab_is rfl rfl rfl rfl ?_ ?_) ?_
      rotate_left 2
      refine (Hp.at_push_lt ?_).trans ?_
      · simp; done
      · exact Hp.at_push_eq
      · rfl
    focus
      refine GOps.w1 rfl rfl rfl rfl (gop_fullB (id := ?_) (L := ?_) (M := ?_) (K := ?_) ?_ tab_is rfl rfl rfl rfl ?_ ?_ ?_ (gsrc_strM rfl rfl rfl ?_) ?_ ?_ ?_ ?_) ?_
      rotate_left 4
      · simp; rfl
      refine bs_b1 (b := ?_) (u := ?_) ?_ ?_ ?_ ?_
      rotate_left 2
      refine Hp.at_push_id ?_
      · simp; done
      · rfl
      · exact congrArg (fun z : Int => [Value.int .u8 z]) (by assumption)
      · rfl
      · decide
      · omega
      · rfl
      · rfl
      · rfl
      · omega
      · omega
    focus
      refine GOps.w rfl rfl rfl rfl (gop_call rfl Try.call146 rfl ?_ (g_rseal2 _ _ _ _ ?_ ?_ ?_)) ?_
      · intro _ h; cases h; done
      rotate_left 1
      focus
        refine bs_row (b := ?_) ?_ ?_ ?_ ?_
        rotate_left 1
        refine Hp.at_push_id ?_
        · simp; done
        · rfl
        · rfl
        · simp; omega
      · omega
    rintro _ Hxa4 ⟨pa1, ca2, rfl, sa3, xa4⟩
    have xa4l := HExt.len xa4; try simp at xa4l
    refine GOps.r rfl rfl rfl rfl (grd_assign rfl rfl) ?_
    refine GOps.nil ?_
    refine GWP.ret ?_
    refine ⟨_, .one rfl, ?_⟩
    refine ⟨?_, ?_⟩
    · exact fin_sealE (by assumption) rfl
    refine HExt.tr ?_ (by assumption) ?_
    refine HExt.push ?_
    refine HExt.push ?_
    refine HExt.push ?_
    · exact HExt.refl _ _
    · intro _ h; cases h; done
set_option maxHeartbeats 4000000 in
set_option maxRecDepth 100000 in
set_option linter.unusedSimpArgs false in
theorem g_rbytesH (H : Hp) (a b c d e : Nat) (h1 : a ≤ 1073741824) (h2 : b ≤ 1073741824) (h3 : c ≤ 1073741824) (h4 : d ≤ 1073741824) (h5 : e ≤ 1073741824) : GCalls Try.prog 111 [blkV 72 a b c d e []] [] H fun v H' => (∃ p' c', v = .slice p' ((segL 72 a b c d e).length + 4) c' ∧ BS H' (.slice p' ((segL 72 a b c d e).length + 4) c') (sealL (segL 72 a b c d e))) ∧ HExt [] H H' := by
  have hk0 : (72 : Int) = ((72 : UInt8).toNat : Int) := rfl
  have ea := enc_le a (by omega)
  have eb := enc_le b (by omega)
  have ec := enc_le c (by omega)
  have ed := enc_le d (by omega)
  have ee := enc_le e (by omega)
  have pa := enc_pos a
  have pb := enc_pos b
  have pc := enc_pos c
  have pd := enc_pos d
  have pe := enc_pos e
  have hN : ∀ (n : Nat), n ≤ 1073741824 → ∀ H mi, mi = (n : Int) → GCalls Try.prog 102 [.int .u64 mi] [] H fun v H' => (∃ p c, v = .slice p (enc n).length c ∧ BS H' (.slice p (enc n).length c) (enc n)) ∧ HExt [] H H' := fun n hn H mi h => (g_refnum n (by omega) H mi h).mono fun v H' h => h.bs
  unfold blkV
  refine GCalls.body tab_is Try.func111 rfl Try.results111 Try.ntmps111 (by simp) ?_ ?_
  · first | (intro _ h; cases h; done) | (simp; done) | (simp; omega) | (intro i hi; simp at hi; rcases hi with rfl | rfl <;> omega) | (intro i hi; simp at hi; rcases hi with rfl | rfl | rfl <;> omega)
  focus
    refine GWP.seq ?_
    refine GWP.region ?_
    focus
      refine GOps.w1 rfl rfl rfl rfl (gop_box' (id := ?_) ?_ rfl rfl rfl) ?_
      rotate_left 1
      · rfl
    refine GOps.r rfl rfl rfl rfl (grd_assign rfl rfl) ?_
    refine GOps.nil ?_
    refine GWP.seq ?_
    refine GWP.region ?_
    refine GOps.r rfl rfl rfl rfl (grd_fieldAddr tab_is rfl rfl rfl rfl rfl) ?_
    focus
      refine GOps.r rfl rfl rfl rfl (grd_load1 (b := ?_) (v := ?_) tab_is rfl rfl rfl rfl ?_ ?_) ?_
      rotate_left 2
      · exact Hp.at_push_eq
      · rfl
    focus
      refine GOps.w1 rfl rfl rfl rfl (gop_lit (id := ?_) (cs := ?_) ?_ tab_is rfl rfl rfl ?_ ?_ rfl ?_ ?_) ?_
      rotate_left 2
      · simp; rfl
      · decide
      · decide
      · simp [gfill, gsets, Value.cells]; rfl
      · rfl
    refine GOps.r rfl rfl rfl rfl (grd_assign rfl rfl) ?_
    refine GOps.nil ?_
    refine GWP.seq ?_
    refine GWP.seq ?_
    refine GWP.region ?_
    refine GOps.r rfl rfl rfl rfl (grd_fieldAddr tab_is rfl rfl rfl rfl rfl) ?_
    focus
      refine GOps.r rfl rfl rfl rfl (grd_load1 (b := ?_) (v := ?_) tab_is rfl rfl rfl rfl ?_ ?_) ?_
      rotate_left 2
      refine (Hp.at_push_lt ?_).trans ?_
      · simp; done
      · exact Hp.at_push_eq
      · rfl
    refine GOps.r rfl rfl rfl rfl (grd_eql rfl rfl rfl) ?_
    refine GOps.nil ?_
    refine GWP.cond_f rfl ?_ ?_
    · exact decide_eq_false (by omega)
    refine GWP.skip ?_
    refine GWP.seq ?_
    refine GWP.seq ?_
    refine GWP.region ?_
    refine GOps.r rfl rfl rfl rfl (grd_assign rfl rfl) ?_
    refine GOps.nil ?_
    refine GWP.block ?_
    refine GWP.loopN 6 ?_
    refine GRounds.step ?_
    refine GWP.seq ?_
    refine GWP.seq ?_
    refine GWP.region ?_
    refine GOps.r rfl rfl rfl rfl (grd_move rfl rfl) ?_
    refine GOps.r rfl rfl rfl rfl (grd_lss rfl rfl rfl) ?_
    refine GOps.nil ?_
    refine GWP.cond_t rfl ?_ ?_
    · exact decide_eq_true (by omega)
    refine GWP.skip ?_
    refine GWP.seq ?_
    refine GWP.block ?_
    refine GWP.region ?_
    refine GOps.r rfl rfl rfl rfl (grd_move rfl rfl) ?_
    refine GOps.r rfl rfl rfl rfl (grd_move rfl rfl) ?_
    refine GOps.r rfl rfl rfl rfl (grd_fieldAddr tab_is rfl rfl rfl rfl rfl) ?_
    refine GOps.r rfl rfl rfl rfl (grd_indexAddrA1 tab_is rfl rfl rfl rfl rfl ?_) ?_
    · simp; done
    focus
      refine GOps.r rfl rfl rfl rfl (grd_load1 (b := ?_) (v := ?_) tab_is rfl rfl rfl rfl ?_ ?_) ?_
      rotate_left 2
      refine (Hp.at_push_lt ?_).trans ?_
      · simp; done
      · exact Hp.at_push_eq
      · rfl
    refine GOps.r rfl rfl rfl rfl (grd_conv_in tab_is rfl rfl rfl rfl rfl ?_) ?_
    · refine wrap_u64_in ?_; omega
    refine GOps.w rfl rfl rfl rfl (gop_call rfl Try.call102 rfl ?_ (hN a h1 _ _ ?_)) ?_
    · intro _ h; cases h; done
    · rfl
    rintro _ Hxb4 ⟨⟨pb1, cb2, rfl, bb3⟩, xb4⟩
    have xb4l := HExt.len xb4; try simp at xb4l
    focus
      refine GOps.w1 rfl rfl rfl rfl (gop_fullB (id := ?_) (L := ?_) (M := ?_) (K := ?_) ?_ tab_is rfl rfl rfl rfl ?_ ?_ ?_ (gsrc_bs rfl rfl rfl ?_) ?_ ?_ ?_ ?_) ?_
      rotate_left 4
      · rfl
      refine bs_b1 (b := ?_) (u := ?_) ?_ ?_ ?_ ?_
      rotate_left 2
      refine (HExt.eq (by assumption) _ ?_ ?_).trans ?_
      · simp; done
      · intro h; cases h; done
      refine Hp.at_push_id ?_
      · simp; done
      · rfl
      · exact congrArg (fun z : Int => [Value.int .u8 z]) (by assumption)
      · rfl
      · decide
      · omega
      · assumption
      · exact BS.len (by assumption)
      · rfl
      · omega
      · omega
    refine GOps.r rfl rfl rfl rfl (grd_assign rfl rfl) ?_
    refine GOps.nil ?_
    refine GWP.region ?_
    refine GOps.r rfl rfl rfl rfl (grd_move rfl rfl) ?_
    refine GOps.r rfl rfl rfl rfl (grd_add64 rfl rfl rfl ?_) ?_
    · omega
    refine GOps.r rfl rfl rfl rfl (grd_assign rfl rfl) ?_
    refine GOps.nil ?_
    refine GRounds.step ?_
    refine GWP.seq ?_
    refine GWP.seq ?_
    refine GWP.region ?_
    refine GOps.r rfl rfl rfl rfl (grd_move rfl rfl) ?_
    refine GOps.r rfl rfl rfl rfl (grd_lss rfl rfl rfl) ?_
    refine GOps.nil ?_
    refine GWP.cond_t rfl ?_ ?_
    · exact decide_eq_true (by omega)
    refine GWP.skip ?_
    refine GWP.seq ?_
    refine GWP.block ?_
    refine GWP.region ?_
    refine GOps.r rfl rfl rfl rfl (grd_move rfl rfl) ?_
    refine GOps.r rfl rfl rfl rfl (grd_move rfl rfl) ?_
    refine GOps.r rfl rfl rfl rfl (grd_fieldAddr tab_is rfl rfl rfl rfl rfl) ?_
    refine GOps.r rfl rfl rfl rfl (grd_indexAddrA1 tab_is rfl rfl rfl rfl rfl ?_) ?_
    · simp; done
    focus
      refine GOps.r rfl rfl rfl rfl (grd_load1 (b := ?_) (v := ?_) tab_is rfl rfl rfl rfl ?_ ?_) ?_
      rotate_left 2
      refine (Hp.at_push_lt ?_).trans ?_
      · omega
      refine (HExt.eq (by assumption) _ ?_ ?_).trans ?_
      · simp; omega
      · intro h; cases h; done
      refine (Hp.at_push_lt ?_).trans ?_
      · simp; done
      · exact Hp.at_push_eq
      · rfl
    refine GOps.r rfl rfl rfl rfl (grd_conv_in tab_is rfl rfl rfl rfl rfl ?_) ?_
    · refine wrap_u64_in ?_; omega
    refine GOps.w rfl rfl rfl rfl (gop_call rfl Try.call102 rfl ?_ (hN b h2 _ _ ?_)) ?_
    · intro _ h; cases h; done
    · rfl
    rintro _ Hxb8 ⟨⟨pb5, cb6, rfl, bb7⟩, xb8⟩
    have xb8l := HExt.len xb8; try simp at xb8l
    focus
      refine GOps.w1 rfl rfl rfl rfl (gop_ownB (id := ?_) (b := ?_) (L := ?_) (M := ?_) (K := ?_) ?_ tab_is rfl rfl rfl rfl ?_ ?_ ?_ ?_ ?_ ?_ ?_ (gsrc_bs rfl rfl rfl ?_) ?_ ?_ ?_ ?_) ?_
      rotate_left 5
      · rfl
      refine (HExt.eq (by assumption) _ ?_ ?_).trans ?_
      · simp; done
      · intro h; cases h; done
      · exact Hp.at_push_eq
      · rfl
      · rfl
      · rfl
      · simp; omega
      · omega
      · exact .inr (by simp; omega)
      · assumption
      · exact BS.len (by assumption)
      · rfl
      · omega
      · omega
    refine GOps.r rfl rfl rfl rfl (grd_assign rfl rfl) ?_
    refine GOps.nil ?_
    refine GWP.region ?_
    refine GOps.r rfl rfl rfl rfl (grd_move rfl rfl) ?_
    refine GOps.r rfl rfl rfl rfl (grd_add64 rfl rfl rfl ?_) ?_
    · omega
    refine GOps.r rfl rfl rfl rfl (grd_assign rfl rfl) ?_
    refine GOps.nil ?_
    refine GRounds.step ?_
    refine GWP.seq ?_
    refine GWP.seq ?_
    refine GWP.region ?_
    refine GOps.r rfl rfl rfl rfl (grd_move rfl rfl) ?_
    refine GOps.r rfl rfl rfl rfl (grd_lss rfl rfl rfl) ?_
    refine GOps.nil ?_
    refine GWP.cond_t rfl ?_ ?_
    · exact decide_eq_true (by omega)
    refine GWP.skip ?_
    refine GWP.seq ?_
    refine GWP.block ?_
    refine GWP.region ?_
    refine GOps.r rfl rfl rfl rfl (grd_move rfl rfl) ?_
    refine GOps.r rfl rfl rfl rfl (grd_move rfl rfl) ?_
    refine GOps.r rfl rfl rfl rfl (grd_fieldAddr tab_is rfl rfl rfl rfl rfl) ?_
    refine GOps.r rfl rfl rfl rfl (grd_indexAddrA1 tab_is rfl rfl rfl rfl rfl ?_) ?_
    · simp; done
    focus
      refine GOps.r rfl rfl rfl rfl (grd_load1 (b := ?_) (v := ?_) tab_is rfl rfl rfl rfl ?_ ?_) ?_
      rotate_left 2
      refine (Hp.at_push_lt ?_).trans ?_
      · simp; omega
      refine (Hp.at_kill_ne ?_).trans ?_
      · omega
      refine (HExt.eq (by assumption) _ ?_ ?_).trans ?_
      · simp; omega
      · intro h; cases h; done
      refine (Hp.at_push_lt ?_).trans ?_
      · omega
      refine (HExt.eq (by assumption) _ ?_ ?_).trans ?_
      · simp; omega
      · intro h; cases h; done
      refine (Hp.at_push_lt ?_).trans ?_
      · simp; done
      · exact Hp.at_push_eq
      · rfl
    refine GOps.r rfl rfl rfl rfl (grd_conv_in tab_is rfl rfl rfl rfl rfl ?_) ?_
    · refine wrap_u64_in ?_; omega
    refine GOps.w rfl rfl rfl rfl (gop_call rfl Try.call102 rfl ?_ (hN c h3 _ _ ?_)) ?_
    · intro _ h; cases h; done
    · rfl
    rintro _ Hxb12 ⟨⟨pb9, cb10, rfl, bb11⟩, xb12⟩
    have xb12l := HExt.len xb12; try simp at xb12l
    focus
      refine GOps.w1 rfl rfl rfl rfl (gop_ownB (id := ?_) (b := ?_) (L := ?_) (M := ?_) (K := ?_) ?_ tab_is rfl rfl rfl rfl ?_ ?_ ?_ ?_ ?_ ?_ ?_ (gsrc_bs rfl rfl rfl ?_) ?_ ?_ ?_ ?_) ?_
      rotate_left 5
      · rfl
      refine (HExt.eq (by assumption) _ ?_ ?_).trans ?_
      · simp; done
      · intro h; cases h; done
      refine Hp.at_push_id ?_
      · simp; done
      · rfl
      · rfl
      · rfl
      · simp; omega
      · omega
      · exact .inr (by simp; omega)
      · assumption
      · exact BS.len (by assumption)
      · rfl
      · omega
      · omega
    refine GOps.r rfl rfl rfl rfl (grd_assign rfl rfl) ?_
    refine GOps.nil ?_
    refine GWP.region ?_
    refine GOps.r rfl rfl rfl rfl (grd_move rfl rfl) ?_
    refine GOps.r rfl rfl rfl rfl (grd_add64 rfl rfl rfl ?_) ?_
    · omega
    refine GOps.r rfl rfl rfl rfl (grd_assign rfl rfl) ?_
    refine GOps.nil ?_
    refine GRounds.step ?_
    refine GWP.seq ?_
    refine GWP.seq ?_
    refine GWP.region ?_
    refine GOps.r rfl rfl rfl rfl (grd_move rfl rfl) ?_
    refine GOps.r rfl rfl rfl rfl (grd_lss rfl rfl rfl) ?_
    refine GOps.nil ?_
    refine GWP.cond_t rfl ?_ ?_
    · exact decide_eq_true (by omega)
    refine GWP.skip ?_
    refine GWP.seq ?_
    refine GWP.block ?_
    refine GWP.region ?_
    refine GOps.r rfl rfl rfl rfl (grd_move rfl rfl) ?_
    refine GOps.r rfl rfl rfl rfl (grd_move rfl rfl) ?_
    refine GOps.r rfl rfl rfl rfl (grd_fieldAddr tab_is rfl rfl rfl rfl rfl) ?_
    refine GOps.r rfl rfl rfl rfl (grd_indexAddrA1 tab_is rfl rfl rfl rfl rfl ?_) ?_
    · simp; done
    focus
      refine GOps.r rfl rfl rfl rfl (grd_load1 (b := ?_) (v := ?_) tab_is rfl rfl rfl rfl ?_ ?_) ?_
      rotate_left 2
      refine (Hp.at_push_lt ?_).trans ?_
      · simp; omega
      refine (Hp.at_kill_ne ?_).trans ?_
      · omega
      refine (HExt.eq (by assumption) _ ?_ ?_).trans ?_
      · simp; omega
      · intro h; cases h; done
      refine (Hp.at_push_lt ?_).trans ?_
      · simp; omega
      refine (Hp.at_kill_ne ?_).trans ?_
      · omega
      refine (HExt.eq (by assumption) _ ?_ ?_).trans ?_
      · simp; omega
      · intro h; cases h; done
      refine (Hp.at_push_lt ?_).trans ?_
      · omega
      refine (HExt.eq (by assumption) _ ?_ ?_).trans ?_
      · simp; omega
      · intro h; cases h; done
      refine (Hp.at_push_lt ?_).trans ?_
      · simp; done
      · exact Hp.at_push_eq
      · rfl
    refine GOps.r rfl rfl rfl rfl (grd_conv_in tab_is rfl rfl rfl rfl rfl ?_) ?_
    · refine wrap_u64_in ?_; omega
    refine GOps.w rfl rfl rfl rfl (gop_call rfl Try.call102 rfl ?_ (hN d h4 _ _ ?_)) ?_
    · intro _ h; cases h; done
    · rfl
    rintro _ Hxb16 ⟨⟨pb13, cb14, rfl, bb15⟩, xb16⟩
    have xb16l := HExt.len xb16; try simp at xb16l
    focus
      refine GOps.w1 rfl rfl rfl rfl (gop_ownB (id := ?_) (b := ?_) (L := ?_) (M := ?_) (K := ?_) ?_ tab_is rfl rfl rfl rfl ?_ ?_ ?_ ?_ ?_ ?_ ?_ (gsrc_bs rfl rfl rfl ?_) ?_ ?_ ?_ ?_) ?_
      rotate_left 5
      · rfl
      refine (HExt.eq (by assumption) _ ?_ ?_).trans ?_
      · simp; done
      · intro h; cases h; done
      refine Hp.at_push_id ?_
      · simp; done
      · rfl
      · rfl
      · rfl
      · simp; omega
      · omega
      · exact .inr (by simp; omega)
      · assumption
      · exact BS.len (by assumption)
      · rfl
      · omega
      · omega
    refine GOps.r rfl rfl rfl rfl (grd_assign rfl rfl) ?_
    refine GOps.nil ?_
    refine GWP.region ?_
    refine GOps.r rfl rfl rfl rfl (grd_move rfl rfl) ?_
    refine GOps.r rfl rfl rfl rfl (grd_add64 rfl rfl rfl ?_) ?_
    · omega
    refine GOps.r rfl rfl rfl rfl (grd_assign rfl rfl) ?_
    refine GOps.nil ?_
    refine GRounds.step ?_
    refine GWP.seq ?_
    refine GWP.seq ?_
    refine GWP.region ?_
    refine GOps.r rfl rfl rfl rfl (grd_move rfl rfl) ?_
    refine GOps.r rfl rfl rfl rfl (grd_lss rfl rfl rfl) ?_
    refine GOps.nil ?_
    refine GWP.cond_t rfl ?_ ?_
    · exact decide_eq_true (by omega)
    refine GWP.skip ?_
    refine GWP.seq ?_
    refine GWP.block ?_
    refine GWP.region ?_
    refine GOps.r rfl rfl rfl rfl (grd_move rfl rfl) ?_
    refine GOps.r rfl rfl rfl rfl (grd_move rfl rfl) ?_
    refine GOps.r rfl rfl rfl rfl (grd_fieldAddr tab_is rfl rfl rfl rfl rfl) ?_
    refine GOps.r rfl rfl rfl rfl (grd_indexAddrA1 tab_is rfl rfl rfl rfl rfl ?_) ?_
    · simp; done
    focus
      refine GOps.r rfl rfl rfl rfl (grd_load1 (b := ?_) (v := ?_) tab_is rfl rfl rfl rfl ?_ ?_) ?_
      rotate_left 2
      refine (Hp.at_push_lt ?_).trans ?_
      · simp; omega
      refine (Hp.at_kill_ne ?_).trans ?_
      · omega
      refine (HExt.eq (by assumption) _ ?_ ?_).trans ?_
      · simp; omega
      · intro h; cases h; done
      refine (Hp.at_push_lt ?_).trans ?_
      · simp; omega
      refine (Hp.at_kill_ne ?_).trans ?_
      · omega
      refine (HExt.eq (by assumption) _ ?_ ?_).trans ?_
      · simp; omega
      · intro h; cases h; done
      refine (Hp.at_push_lt ?_).trans ?_
      · simp; omega
      refine (Hp.at_kill_ne ?_).trans ?_
      · omega
      refine (HExt.eq (by assumption) _ ?_ ?_).trans ?_
      · simp; omega
      · intro h; cases h; done
      refine (Hp.at_push_lt ?_).trans ?_
      · omega
      refine (HExt.eq (by assumption) _ ?_ ?_).trans ?_
      · simp; omega
      · intro h; cases h; done
      refine (Hp.at_push_lt ?_).trans ?_
      · simp; done
      · exact Hp.at_push_eq
      · rfl
    refine GOps.r rfl rfl rfl rfl (grd_conv_in tab_is rfl rfl rfl rfl rfl ?_) ?_
    · refine wrap_u64_in ?_; omega
    refine GOps.w rfl rfl rfl rfl (gop_call rfl Try.call102 rfl ?_ (hN e h5 _ _ ?_)) ?_
    · intro _ h; cases h; done
    · rfl
    rintro _ Hxb20 ⟨⟨pb17, cb18, rfl, bb19⟩, xb20⟩
    have xb20l := HExt.len xb20; try simp at xb20l
    focus
      refine GOps.w1 rfl rfl rfl rfl (gop_ownB (id := ?_) (b := ?_) (L := ?_) (M := ?_) (K := ?_) ?_ tab_is rfl rfl rfl rfl ?_ ?_ ?_ ?_ ?_ ?_ ?_ (gsrc_bs rfl rfl rfl ?_) ?_ ?_ ?_ ?_) ?_
      rotate_left 5
      · rfl
      refine (HExt.eq (by assumption) _ ?_ ?_).trans ?_
      · simp; done
      · intro h; cases h; done
      refine Hp.at_push_id ?_
      · simp; done
      · rfl
      · rfl
      · rfl
      · simp; omega
      · omega
      · exact .inr (by simp; omega)
      · assumption
      · exact BS.len (by assumption)
      · rfl
      · omega
      · omega
    refine GOps.r rfl rfl rfl rfl (grd_assign rfl rfl) ?_
    refine GOps.nil ?_
    refine GWP.region ?_
    refine GOps.r rfl rfl rfl rfl (grd_move rfl rfl) ?_
    refine GOps.r rfl rfl rfl rfl (grd_add64 rfl rfl rfl ?_) ?_
    · omega
    refine GOps.r rfl rfl rfl rfl (grd_assign rfl rfl) ?_
    refine GOps.nil ?_
    refine GRounds.step ?_
    refine GWP.seq ?_
    refine GWP.seq ?_
    refine GWP.region ?_
    refine GOps.r rfl rfl rfl rfl (grd_move rfl rfl) ?_
    refine GOps.r rfl rfl rfl rfl (grd_lss rfl rfl rfl) ?_
    refine GOps.nil ?_
    refine GWP.cond_f rfl ?_ ?_
    · exact decide_eq_false (by omega)
    refine GWP.exit ?_
    refine GWP.seq ?_
    refine GWP.region ?_
    refine GOps.r rfl rfl rfl rfl (grd_move rfl rfl) ?_
    focus
      refine GOps.w rfl rfl rfl rfl (gop_call rfl Try.call146 rfl ?_ (g_rseal2 _ _ _ _ ?_ ?_ ?_)) ?_
      · intro _ h; cases h; done
      rotate_left 1
      focus
        refine bs_row (b := ?_) ?_ ?_ ?_ ?_
        rotate_left 1
        refine Hp.at_push_id ?_
        · simp; done
        · rfl
        · rfl
        · simp; omega
      · omega
    rintro _ Hxb24 ⟨pb21, cb22, rfl, sb23, xb24⟩
    have xb24l := HExt.len xb24; try simp at xb24l
    refine GOps.r rfl rfl rfl rfl (grd_assign rfl rfl) ?_
    refine GOps.nil ?_
    refine GWP.ret ?_
    refine ⟨_, .one rfl, ?_⟩
    refine ⟨?_, ?_⟩
    · exact fin_sealE (by assumption) (by simp [segL, encs_cons, encs_nil])
    refine HExt.tr ?_ (by assumption) ?_
    refine HExt.push ?_
    refine HExt.kill ?_ ?_
    refine HExt.tr ?_ (by assumption) ?_
    refine HExt.push ?_
    refine HExt.kill ?_ ?_
    refine HExt.tr ?_ (by assumption) ?_
    refine HExt.push ?_
    refine HExt.kill ?_ ?_
    refine HExt.tr ?_ (by assumption) ?_
    refine HExt.push ?_
    refine HExt.kill ?_ ?_
    refine HExt.tr ?_ (by assumption) ?_
    refine HExt.push ?_
    refine HExt.tr ?_ (by assumption) ?_
    refine HExt.push ?_
    refine HExt.push ?_
    · exact HExt.refl _ _
    · intro _ h; cases h; done
    · intro _ h; cases h; done
    · exact .inr (by omega)
    · intro _ h; cases h; done
    · exact .inr (by omega)
    · intro _ h; cases h; done
    · exact .inr (by omega)
    · intro _ h; cases h; done
    · exact .inr (by omega)
    · intro _ h; cases h; done
set_option maxHeartbeats 4000000 in
set_option maxRecDepth 100000 in
set_option linter.unusedSimpArgs false in
theorem g_rightNotH (H : Hp) (a b c d e : Int) (hr : ¬ (okN a ∧ okN b ∧ okN c ∧ okN d ∧ okN e)) : GCalls Try.prog 108 [blkV 72 a b c d e []] [] H fun v H' => v = .bool false ∧ HExt [] H H' := by
  unfold okN at hr
  unfold blkV
  refine GCalls.body tab_is Try.func108 rfl Try.results108 Try.ntmps108 (by simp) ?_ ?_
  · first | (intro _ h; cases h; done) | (simp; done) | (simp; omega) | (intro i hi; simp at hi; rcases hi with rfl | rfl <;> omega) | (intro i hi; simp at hi; rcases hi with rfl | rfl | rfl <;> omega)
  focus
    refine GWP.seq ?_
    refine GWP.region ?_
    focus
      refine GOps.w1 rfl rfl rfl rfl (gop_box' (id := ?_) ?_ rfl rfl rfl) ?_
      rotate_left 1
      · rfl
    refine GOps.r rfl rfl rfl rfl (grd_assign rfl rfl) ?_
    refine GOps.nil ?_
    refine GWP.seq ?_
    refine GWP.seq ?_
    refine GWP.region ?_
    refine GOps.r rfl rfl rfl rfl (grd_assign rfl rfl) ?_
    refine GOps.nil ?_
    refine GWP.block ?_
    refine GWP.loopN 6 ?_
    refine GRounds.step ?_
    refine GWP.seq ?_
    refine GWP.seq ?_
    refine GWP.region ?_
    refine GOps.r rfl rfl rfl rfl (grd_move rfl rfl) ?_
    refine GOps.r rfl rfl rfl rfl (grd_lss rfl rfl rfl) ?_
    refine GOps.nil ?_
    refine GWP.cond_t rfl ?_ ?_
    · exact decide_eq_true (by omega)
    refine GWP.skip ?_
    refine GWP.seq ?_
    refine GWP.block ?_
    refine GWP.seq ?_
    refine GWP.region ?_
    refine GOps.r rfl rfl rfl rfl (grd_move rfl rfl) ?_
    refine GOps.r rfl rfl rfl rfl (grd_fieldAddr tab_is rfl rfl rfl rfl rfl) ?_
    refine GOps.r rfl rfl rfl rfl (grd_indexAddrA1 tab_is rfl rfl rfl rfl rfl ?_) ?_
    · simp; done
    focus
      refine GOps.r rfl rfl rfl rfl (grd_load1 (b := ?_) (v := ?_) tab_is rfl rfl rfl rfl ?_ ?_) ?_
      rotate_left 2
      · exact Hp.at_push_eq
      · rfl
    refine GOps.r rfl rfl rfl rfl (grd_lss rfl rfl rfl) ?_
    refine GOps.r rfl rfl rfl rfl (grd_move rfl rfl) ?_
    refine GOps.split rfl rfl (fun br1 => ?_) (fun br1 => ?_)
    simp only [beq_true, beq_false, Bool.not_true, Bool.not_false, Bool.not_eq_true', Bool.not_eq_false', decide_eq_true_eq, decide_eq_false_iff_not] at br1
    refine GOps.take rfl rfl ?_ ?_
    · exact beq_iff_eq.2 (decide_eq_false (by assumption))
    refine GOps.r rfl rfl rfl rfl (grd_move rfl rfl) ?_
    refine GOps.take rfl rfl ?_ ?_
    · exact beq_iff_eq.2 (decide_eq_false (by assumption))
    refine GOps.r rfl rfl rfl rfl (grd_fieldAddr tab_is rfl rfl rfl rfl rfl) ?_
    refine GOps.take rfl rfl ?_ ?_
    · exact beq_iff_eq.2 (decide_eq_false (by assumption))
    refine GOps.r rfl rfl rfl rfl (grd_indexAddrA1 tab_is rfl rfl rfl rfl rfl ?_) ?_
    · simp; done
    refine GOps.take rfl rfl ?_ ?_
    · exact beq_iff_eq.2 (decide_eq_false (by assumption))
    focus
      refine GOps.r rfl rfl rfl rfl (grd_load1 (b := ?_) (v := ?_) tab_is rfl rfl rfl rfl ?_ ?_) ?_
      rotate_left 2
      · exact Hp.at_push_eq
      · rfl
    refine GOps.take rfl rfl ?_ ?_
    · exact beq_iff_eq.2 (decide_eq_false (by assumption))
    refine GOps.r rfl rfl rfl rfl (grd_gtr rfl rfl rfl) ?_
    refine GOps.r rfl rfl rfl rfl (grd_pick_f rfl rfl ?_ rfl) ?_
    · exact decide_eq_false (by assumption)
    refine GOps.nil ?_
    refine GWP.cond rfl (fun br2 => ?_) (fun br2 => ?_)
    simp only [beq_true, beq_false, Bool.not_true, Bool.not_false, Bool.not_eq_true', Bool.not_eq_false', decide_eq_true_eq, decide_eq_false_iff_not] at br2
    refine GWP.seq ?_
    refine GWP.region ?_
    refine GOps.r rfl rfl rfl rfl (grd_assign rfl rfl) ?_
    refine GOps.nil ?_
    refine GWP.ret ?_
    refine ⟨_, .one rfl, ?_⟩
    refine ⟨?_, ?_⟩
    · rfl
    refine HExt.push ?_
    · exact HExt.refl _ _
    simp only [beq_true, beq_false, Bool.not_true, Bool.not_false, Bool.not_eq_true', Bool.not_eq_false', decide_eq_true_eq, decide_eq_false_iff_not] at br2
    refine GWP.skip ?_
    refine GWP.region ?_
    refine GOps.r rfl rfl rfl rfl (grd_move rfl rfl) ?_
    refine GOps.r rfl rfl rfl rfl (grd_add64 rfl rfl rfl ?_) ?_
    · omega
    refine GOps.r rfl rfl rfl rfl (grd_assign rfl rfl) ?_
    refine GOps.nil ?_
    refine GRounds.step ?_
    refine GWP.seq ?_
    refine GWP.seq ?_
    refine GWP.region ?_
    refine GOps.r rfl rfl rfl rfl (grd_move rfl rfl) ?_
    refine GOps.r rfl rfl rfl rfl (grd_lss rfl rfl rfl) ?_
    refine GOps.nil ?_
    refine GWP.cond_t rfl ?_ ?_
    · exact decide_eq_true (by omega)
    refine GWP.skip ?_
    refine GWP.seq ?_
    refine GWP.block ?_
    refine GWP.seq ?_
    refine GWP.region ?_
    refine GOps.r rfl rfl rfl rfl (grd_move rfl rfl) ?_
    refine GOps.r rfl rfl rfl rfl (grd_fieldAddr tab_is rfl rfl rfl rfl rfl) ?_
    refine GOps.r rfl rfl rfl rfl (grd_indexAddrA1 tab_is rfl rfl rfl rfl rfl ?_) ?_
    · simp; done
    focus
      refine GOps.r rfl rfl rfl rfl (grd_load1 (b := ?_) (v := ?_) tab_is rfl rfl rfl rfl ?_ ?_) ?_
      rotate_left 2
      · exact Hp.at_push_eq
      · rfl
    refine GOps.r rfl rfl rfl rfl (grd_lss rfl rfl rfl) ?_
    refine GOps.r rfl rfl rfl rfl (grd_move rfl rfl) ?_
    refine GOps.split rfl rfl (fun br3 => ?_) (fun br3 => ?_)
    simp only [beq_true, beq_false, Bool.not_true, Bool.not_false, Bool.not_eq_true', Bool.not_eq_false', decide_eq_true_eq, decide_eq_false_iff_not] at br3
    refine GOps.take rfl rfl ?_ ?_
    · exact beq_iff_eq.2 (decide_eq_false (by assumption))
    refine GOps.r rfl rfl rfl rfl (grd_move rfl rfl) ?_
    refine GOps.take rfl rfl ?_ ?_
    · exact beq_iff_eq.2 (decide_eq_false (by assumption))
    refine GOps.r rfl rfl rfl rfl (grd_fieldAddr tab_is rfl rfl rfl rfl rfl) ?_
    refine GOps.take rfl rfl ?_ ?_
    · exact beq_iff_eq.2 (decide_eq_false (by assumption))
    refine GOps.r rfl rfl rfl rfl (grd_indexAddrA1 tab_is rfl rfl rfl rfl rfl ?_) ?_
    · simp; done
    refine GOps.take rfl rfl ?_ ?_
    · exact beq_iff_eq.2 (decide_eq_false (by assumption))
    focus
      refine GOps.r rfl rfl rfl rfl (grd_load1 (b := ?_) (v := ?_) tab_is rfl rfl rfl rfl ?_ ?_) ?_
      rotate_left 2
      · exact Hp.at_push_eq
      · rfl
    refine GOps.take rfl rfl ?_ ?_
    · exact beq_iff_eq.2 (decide_eq_false (by assumption))
    refine GOps.r rfl rfl rfl rfl (grd_gtr rfl rfl rfl) ?_
    refine GOps.r rfl rfl rfl rfl (grd_pick_f rfl rfl ?_ rfl) ?_
    · exact decide_eq_false (by assumption)
    refine GOps.nil ?_
    refine GWP.cond rfl (fun br4 => ?_) (fun br4 => ?_)
    simp only [beq_true, beq_false, Bool.not_true, Bool.not_false, Bool.not_eq_true', Bool.not_eq_false', decide_eq_true_eq, decide_eq_false_iff_not] at br4
    refine GWP.seq ?_
    refine GWP.region ?_
    refine GOps.r rfl rfl rfl rfl (grd_assign rfl rfl) ?_
    refine GOps.nil ?_
    refine GWP.ret ?_
    refine ⟨_, .one rfl, ?_⟩
    refine ⟨?_, ?_⟩
    · rfl
    refine HExt.push ?_
    · exact HExt.refl _ _
    simp only [beq_true, beq_false, Bool.not_true, Bool.not_false, Bool.not_eq_true', Bool.not_eq_false', decide_eq_true_eq, decide_eq_false_iff_not] at br4
    refine GWP.skip ?_
    refine GWP.region ?_
    refine GOps.r rfl rfl rfl rfl (grd_move rfl rfl) ?_
    refine GOps.r rfl rfl rfl rfl (grd_add64 rfl rfl rfl ?_) ?_
    · omega
    refine GOps.r rfl rfl rfl rfl (grd_assign rfl rfl) ?_
    refine GOps.nil ?_
    refine GRounds.step ?_
    refine GWP.seq ?_
    refine GWP.seq ?_
    refine GWP.region ?_
    refine GOps.r rfl rfl rfl rfl (grd_move rfl rfl) ?_
    refine GOps.r rfl rfl rfl rfl (grd_lss rfl rfl rfl) ?_
    refine GOps.nil ?_
    refine GWP.cond_t rfl ?_ ?_
    · exact decide_eq_true (by omega)
    refine GWP.skip ?_
    refine GWP.seq ?_
    refine GWP.block ?_
    refine GWP.seq ?_
    refine GWP.region ?_
    refine GOps.r rfl rfl rfl rfl (grd_move rfl rfl) ?_
    refine GOps.r rfl rfl rfl rfl (grd_fieldAddr tab_is rfl rfl rfl rfl rfl) ?_
    refine GOps.r rfl rfl rfl rfl (grd_indexAddrA1 tab_is rfl rfl rfl rfl rfl ?_) ?_
    · simp; done
    focus
      refine GOps.r rfl rfl rfl rfl (grd_load1 (b := ?_) (v := ?_) tab_is rfl rfl rfl rfl ?_ ?_) ?_
      rotate_left 2
      · exact Hp.at_push_eq
      · rfl
    refine GOps.r rfl rfl rfl rfl (grd_lss rfl rfl rfl) ?_
    refine GOps.r rfl rfl rfl rfl (grd_move rfl rfl) ?_
    refine GOps.split rfl rfl (fun br5 => ?_) (fun br5 => ?_)
    simp only [beq_true, beq_false, Bool.not_true, Bool.not_false, Bool.not_eq_true', Bool.not_eq_false', decide_eq_true_eq, decide_eq_false_iff_not] at br5
    refine GOps.take rfl rfl ?_ ?_
    · exact beq_iff_eq.2 (decide_eq_false (by assumption))
    refine GOps.r rfl rfl rfl rfl (grd_move rfl rfl) ?_
    refine GOps.take rfl rfl ?_ ?_
    · exact beq_iff_eq.2 (decide_eq_false (by assumption))
    refine GOps.r rfl rfl rfl rfl (grd_fieldAddr tab_is rfl rfl rfl rfl rfl) ?_
    refine GOps.take rfl rfl ?_ ?_
    · exact beq_iff_eq.2 (decide_eq_false (by assumption))
    refine GOps.r rfl rfl rfl rfl (grd_indexAddrA1 tab_is rfl rfl rfl rfl rfl ?_) ?_
    · simp; done
    refine GOps.take rfl rfl ?_ ?_
    · exact beq_iff_eq.2 (decide_eq_false (by assumption))
    focus
      refine GOps.r rfl rfl rfl rfl (grd_load1 (b := ?_) (v := ?_) tab_is rfl rfl rfl rfl ?_ ?_) ?_
      rotate_left 2
      · exact Hp.at_push_eq
      · rfl
    refine GOps.take rfl rfl ?_ ?_
    · exact beq_iff_eq.2 (decide_eq_false (by assumption))
    refine GOps.r rfl rfl rfl rfl (grd_gtr rfl rfl rfl) ?_
    refine GOps.r rfl rfl rfl rfl (grd_pick_f rfl rfl ?_ rfl) ?_
    · exact decide_eq_false (by assumption)
    refine GOps.nil ?_
    refine GWP.cond rfl (fun br6 => ?_) (fun br6 => ?_)
    simp only [beq_true, beq_false, Bool.not_true, Bool.not_false, Bool.not_eq_true', Bool.not_eq_false', decide_eq_true_eq, decide_eq_false_iff_not] at br6
    refine GWP.seq ?_
    refine GWP.region ?_
    refine GOps.r rfl rfl rfl rfl (grd_assign rfl rfl) ?_
    refine GOps.nil ?_
    refine GWP.ret ?_
    refine ⟨_, .one rfl, ?_⟩
    refine ⟨?_, ?_⟩
    · rfl
    refine HExt.push ?_
    · exact HExt.refl _ _
    simp only [beq_true, beq_false, Bool.not_true, Bool.not_false, Bool.not_eq_true', Bool.not_eq_false', decide_eq_true_eq, decide_eq_false_iff_not] at br6
    refine GWP.skip ?_
    refine GWP.region ?_
    refine GOps.r rfl rfl rfl rfl (grd_move rfl rfl) ?_
    refine GOps.r rfl rfl rfl rfl (grd_add64 rfl rfl rfl ?_) ?_
    · omega
    refine GOps.r rfl rfl rfl rfl (grd_assign rfl rfl) ?_
    refine GOps.nil ?_
    refine GRounds.step ?_
    refine GWP.seq ?_
    refine GWP.seq ?_
    refine GWP.region ?_
    refine GOps.r rfl rfl rfl rfl (grd_move rfl rfl) ?_
    refine GOps.r rfl rfl rfl rfl (grd_lss rfl rfl rfl) ?_
    refine GOps.nil ?_
    refine GWP.cond_t rfl ?_ ?_
    · exact decide_eq_true (by omega)
    refine GWP.skip ?_
    refine GWP.seq ?_
    refine GWP.block ?_
    refine GWP.seq ?_
    refine GWP.region ?_
    refine GOps.r rfl rfl rfl rfl (grd_move rfl rfl) ?_
    refine GOps.r rfl rfl rfl rfl (grd_fieldAddr tab_is rfl rfl rfl rfl rfl) ?_
    refine GOps.r rfl rfl rfl rfl (grd_indexAddrA1 tab_is rfl rfl rfl rfl rfl ?_) ?_
    · simp; done
    focus
      refine GOps.r rfl rfl rfl rfl (grd_load1 (b := ?_) (v := ?_) tab_is rfl rfl rfl rfl ?_ ?_) ?_
      rotate_left 2
      · exact Hp.at_push_eq
      · rfl
    refine GOps.r rfl rfl rfl rfl (grd_lss rfl rfl rfl) ?_
    refine GOps.r rfl rfl rfl rfl (grd_move rfl rfl) ?_
    refine GOps.split rfl rfl (fun br7 => ?_) (fun br7 => ?_)
    simp only [beq_true, beq_false, Bool.not_true, Bool.not_false, Bool.not_eq_true', Bool.not_eq_false', decide_eq_true_eq, decide_eq_false_iff_not] at br7
    refine GOps.take rfl rfl ?_ ?_
    · exact beq_iff_eq.2 (decide_eq_false (by assumption))
    refine GOps.r rfl rfl rfl rfl (grd_move rfl rfl) ?_
    refine GOps.take rfl rfl ?_ ?_
    · exact beq_iff_eq.2 (decide_eq_false (by assumption))
    refine GOps.r rfl rfl rfl rfl (grd_fieldAddr tab_is rfl rfl rfl rfl rfl) ?_
    refine GOps.take rfl rfl ?_ ?_
    · exact beq_iff_eq.2 (decide_eq_false (by assumption))
    refine GOps.r rfl rfl rfl rfl (grd_indexAddrA1 tab_is rfl rfl rfl rfl rfl ?_) ?_
    · simp; done
    refine GOps.take rfl rfl ?_ ?_
    · exact beq_iff_eq.2 (decide_eq_false (by assumption))
    focus
      refine GOps.r rfl rfl rfl rfl (grd_load1 (b := ?_) (v := ?_) tab_is rfl rfl rfl rfl ?_ ?_) ?_
      rotate_left 2
      · exact Hp.at_push_eq
      · rfl
    refine GOps.take rfl rfl ?_ ?_
    · exact beq_iff_eq.2 (decide_eq_false (by assumption))
    refine GOps.r rfl rfl rfl rfl (grd_gtr rfl rfl rfl) ?_
    refine GOps.r rfl rfl rfl rfl (grd_pick_f rfl rfl ?_ rfl) ?_
    · exact decide_eq_false (by assumption)
    refine GOps.nil ?_
    refine GWP.cond rfl (fun br8 => ?_) (fun br8 => ?_)
    simp only [beq_true, beq_false, Bool.not_true, Bool.not_false, Bool.not_eq_true', Bool.not_eq_false', decide_eq_true_eq, decide_eq_false_iff_not] at br8
    refine GWP.seq ?_
    refine GWP.region ?_
    refine GOps.r rfl rfl rfl rfl (grd_assign rfl rfl) ?_
    refine GOps.nil ?_
    refine GWP.ret ?_
    refine ⟨_, .one rfl, ?_⟩
    refine ⟨?_, ?_⟩
    · rfl
    refine HExt.push ?_
    · exact HExt.refl _ _
    simp only [beq_true, beq_false, Bool.not_true, Bool.not_false, Bool.not_eq_true', Bool.not_eq_false', decide_eq_true_eq, decide_eq_false_iff_not] at br8
    refine GWP.skip ?_
    refine GWP.region ?_
    refine GOps.r rfl rfl rfl rfl (grd_move rfl rfl) ?_
    refine GOps.r rfl rfl rfl rfl (grd_add64 rfl rfl rfl ?_) ?_
    · omega
    refine GOps.r rfl rfl rfl rfl (grd_assign rfl rfl) ?_
    refine GOps.nil ?_
    refine GRounds.step ?_
    refine GWP.seq ?_
    refine GWP.seq ?_
    refine GWP.region ?_
    refine GOps.r rfl rfl rfl rfl (grd_move rfl rfl) ?_
    refine GOps.r rfl rfl rfl rfl (grd_lss rfl rfl rfl) ?_
    refine GOps.nil ?_
    refine GWP.cond_t rfl ?_ ?_
    · exact decide_eq_true (by omega)
    refine GWP.skip ?_
    refine GWP.seq ?_
    refine GWP.block ?_
    refine GWP.seq ?_
    refine GWP.region ?_
    refine GOps.r rfl rfl rfl rfl (grd_move rfl rfl) ?_
    refine GOps.r rfl rfl rfl rfl (grd_fieldAddr tab_is rfl rfl rfl rfl rfl) ?_
    refine GOps.r rfl rfl rfl rfl (grd_indexAddrA1 tab_is rfl rfl rfl rfl rfl ?_) ?_
    · simp; done
    focus
      refine GOps.r rfl rfl rfl rfl (grd_load1 (b := ?_) (v := ?_) tab_is rfl rfl rfl rfl ?_ ?_) ?_
      rotate_left 2
      · exact Hp.at_push_eq
      · rfl
    refine GOps.r rfl rfl rfl rfl (grd_lss rfl rfl rfl) ?_
    refine GOps.r rfl rfl rfl rfl (grd_move rfl rfl) ?_
    refine GOps.split rfl rfl (fun br9 => ?_) (fun br9 => ?_)
    simp only [beq_true, beq_false, Bool.not_true, Bool.not_false, Bool.not_eq_true', Bool.not_eq_false', decide_eq_true_eq, decide_eq_false_iff_not] at br9
    refine GOps.take rfl rfl ?_ ?_
    · exact beq_iff_eq.2 (decide_eq_false (by assumption))
    refine GOps.r rfl rfl rfl rfl (grd_move rfl rfl) ?_
    refine GOps.take rfl rfl ?_ ?_
    · exact beq_iff_eq.2 (decide_eq_false (by assumption))
    refine GOps.r rfl rfl rfl rfl (grd_fieldAddr tab_is rfl rfl rfl rfl rfl) ?_
    refine GOps.take rfl rfl ?_ ?_
    · exact beq_iff_eq.2 (decide_eq_false (by assumption))
    refine GOps.r rfl rfl rfl rfl (grd_indexAddrA1 tab_is rfl rfl rfl rfl rfl ?_) ?_
    · simp; done
    refine GOps.take rfl rfl ?_ ?_
    · exact beq_iff_eq.2 (decide_eq_false (by assumption))
    focus
      refine GOps.r rfl rfl rfl rfl (grd_load1 (b := ?_) (v := ?_) tab_is rfl rfl rfl rfl ?_ ?_) ?_
      rotate_left 2
      · exact Hp.at_push_eq
      · rfl
    refine GOps.take rfl rfl ?_ ?_
    · exact beq_iff_eq.2 (decide_eq_false (by assumption))
    refine GOps.r rfl rfl rfl rfl (grd_gtr rfl rfl rfl) ?_
    refine GOps.r rfl rfl rfl rfl (grd_pick_f rfl rfl ?_ rfl) ?_
    · exact decide_eq_false (by assumption)
    refine GOps.nil ?_
    refine GWP.cond_t rfl ?_ ?_
    · exact decide_eq_true (by omega)
    refine GWP.seq ?_
    refine GWP.region ?_
    refine GOps.r rfl rfl rfl rfl (grd_assign rfl rfl) ?_
    refine GOps.nil ?_
    refine GWP.ret ?_
    refine ⟨_, .one rfl, ?_⟩
    refine ⟨?_, ?_⟩
    · rfl
    refine HExt.push ?_
    · exact HExt.refl _ _
    simp only [beq_true, beq_false, Bool.not_true, Bool.not_false, Bool.not_eq_true', Bool.not_eq_false', decide_eq_true_eq, decide_eq_false_iff_not] at br9
    refine GOps.no rfl ?_ rfl rfl ?_
    · exact beq_eq_false_iff_ne.2 (by rw [decide_eq_true (by assumption)]; decide)
    refine GOps.no rfl ?_ rfl rfl ?_
    · exact beq_eq_false_iff_ne.2 (by rw [decide_eq_true (by assumption)]; decide)
    refine GOps.no rfl ?_ rfl rfl ?_
    · exact beq_eq_false_iff_ne.2 (by rw [decide_eq_true (by assumption)]; decide)
    refine GOps.no rfl ?_ rfl rfl ?_
    · exact beq_eq_false_iff_ne.2 (by rw [decide_eq_true (by assumption)]; decide)
    refine GOps.no rfl ?_ rfl rfl ?_
    · exact beq_eq_false_iff_ne.2 (by rw [decide_eq_true (by assumption)]; decide)
    refine GOps.r rfl rfl rfl rfl (grd_pick_t rfl rfl ?_ rfl) ?_
    · exact decide_eq_true (by assumption)
    refine GOps.nil ?_
    refine GWP.cond_t rfl ?_ ?_
    · with_reducible rfl
    refine GWP.seq ?_
    refine GWP.region ?_
    refine GOps.r rfl rfl rfl rfl (grd_assign rfl rfl) ?_
    refine GOps.nil ?_
    refine GWP.ret ?_
    refine ⟨_, .one rfl, ?_⟩
    refine ⟨?_, ?_⟩
    · rfl
    refine HExt.push ?_
    · exact HExt.refl _ _
    simp only [beq_true, beq_false, Bool.not_true, Bool.not_false, Bool.not_eq_true', Bool.not_eq_false', decide_eq_true_eq, decide_eq_false_iff_not] at br7
    refine GOps.no rfl ?_ rfl rfl ?_
    · exact beq_eq_false_iff_ne.2 (by rw [decide_eq_true (by assumption)]; decide)
    refine GOps.no rfl ?_ rfl rfl ?_
    · exact beq_eq_false_iff_ne.2 (by rw [decide_eq_true (by assumption)]; decide)
    refine GOps.no rfl ?_ rfl rfl ?_
    · exact beq_eq_false_iff_ne.2 (by rw [decide_eq_true (by assumption)]; decide)
    refine GOps.no rfl ?_ rfl rfl ?_
    · exact beq_eq_false_iff_ne.2 (by rw [decide_eq_true (by assumption)]; decide)
    refine GOps.no rfl ?_ rfl rfl ?_
    · exact beq_eq_false_iff_ne.2 (by rw [decide_eq_true (by assumption)]; decide)
    refine GOps.r rfl rfl rfl rfl (grd_pick_t rfl rfl ?_ rfl) ?_
    · exact decide_eq_true (by assumption)
    refine GOps.nil ?_
    refine GWP.cond_t rfl ?_ ?_
    · with_reducible rfl
    refine GWP.seq ?_
    refine GWP.region ?_
    refine GOps.r rfl rfl rfl rfl (grd_assign rfl rfl) ?_
    refine GOps.nil ?_
    refine GWP.ret ?_
    refine ⟨_, .one rfl, ?_⟩
    refine ⟨?_, ?_⟩
    · rfl
    refine HExt.push ?_
    · exact HExt.refl _ _
    simp only [beq_true, beq_false, Bool.not_true, Bool.not_false, Bool.not_eq_true', Bool.not_eq_false', decide_eq_true_eq, decide_eq_false_iff_not] at br5
    refine GOps.no rfl ?_ rfl rfl ?_
    · exact beq_eq_false_iff_ne.2 (by rw [decide_eq_true (by assumption)]; decide)
    refine GOps.no rfl ?_ rfl rfl ?_
    · exact beq_eq_false_iff_ne.2 (by rw [decide_eq_true (by assumption)]; decide)
    refine GOps.no rfl ?_ rfl rfl ?_
    · exact beq_eq_false_iff_ne.2 (by rw [decide_eq_true (by assumption)]; decide)
    refine GOps.no rfl ?_ rfl rfl ?_
    · exact beq_eq_false_iff_ne.2 (by rw [decide_eq_true (by assumption)]; decide)
    refine GOps.no rfl ?_ rfl rfl ?_
    · exact beq_eq_false_iff_ne.2 (by rw [decide_eq_true (by assumption)]; decide)
    refine GOps.r rfl rfl rfl rfl (grd_pick_t rfl rfl ?_ rfl) ?_
    · exact decide_eq_true (by assumption)
    refine GOps.nil ?_
    refine GWP.cond_t rfl ?_ ?_
    · with_reducible rfl
    refine GWP.seq ?_
    refine GWP.region ?_
    refine GOps.r rfl rfl rfl rfl (grd_assign rfl rfl) ?_
    refine GOps.nil ?_
    refine GWP.ret ?_
    refine ⟨_, .one rfl, ?_⟩
    refine ⟨?_, ?_⟩
    · rfl
    refine HExt.push ?_
    · exact HExt.refl _ _
    simp only [beq_true, beq_false, Bool.not_true, Bool.not_false, Bool.not_eq_true', Bool.not_eq_false', decide_eq_true_eq, decide_eq_false_iff_not] at br3
    refine GOps.no rfl ?_ rfl rfl ?_
    · exact beq_eq_false_iff_ne.2 (by rw [decide_eq_true (by assumption)]; decide)
    refine GOps.no rfl ?_ rfl rfl ?_
    · exact beq_eq_false_iff_ne.2 (by rw [decide_eq_true (by assumption)]; decide)
    refine GOps.no rfl ?_ rfl rfl ?_
    · exact beq_eq_false_iff_ne.2 (by rw [decide_eq_true (by assumption)]; decide)
    refine GOps.no rfl ?_ rfl rfl ?_
    · exact beq_eq_false_iff_ne.2 (by rw [decide_eq_true (by assumption)]; decide)
    refine GOps.no rfl ?_ rfl rfl ?_
    · exact beq_eq_false_iff_ne.2 (by rw [decide_eq_true (by assumption)]; decide)
    refine GOps.r rfl rfl rfl rfl (grd_pick_t rfl rfl ?_ rfl) ?_
    · exact decide_eq_true (by assumption)
    refine GOps.nil ?_
    refine GWP.cond_t rfl ?_ ?_
    · with_reducible rfl
    refine GWP.seq ?_
    refine GWP.region ?_
    refine GOps.r rfl rfl rfl rfl (grd_assign rfl rfl) ?_
    refine GOps.nil ?_
    refine GWP.ret ?_
    refine ⟨_, .one rfl, ?_⟩
    refine ⟨?_, ?_⟩
    · rfl
    refine HExt.push ?_
    · exact HExt.refl _ _
    simp only [beq_true, beq_false, Bool.not_true, Bool.not_false, Bool.not_eq_true', Bool.not_eq_false', decide_eq_true_eq, decide_eq_false_iff_not] at br1
    refine GOps.no rfl ?_ rfl rfl ?_
    · exact beq_eq_false_iff_ne.2 (by rw [decide_eq_true (by assumption)]; decide)
    refine GOps.no rfl ?_ rfl rfl ?_
    · exact beq_eq_false_iff_ne.2 (by rw [decide_eq_true (by assumption)]; decide)
    refine GOps.no rfl ?_ rfl rfl ?_
    · exact beq_eq_false_iff_ne.2 (by rw [decide_eq_true (by assumption)]; decide)
    refine GOps.no rfl ?_ rfl rfl ?_
    · exact beq_eq_false_iff_ne.2 (by rw [decide_eq_true (by assumption)]; decide)
    refine GOps.no rfl ?_ rfl rfl ?_
    · exact beq_eq_false_iff_ne.2 (by rw [decide_eq_true (by assumption)]; decide)
    refine GOps.r rfl rfl rfl rfl (grd_pick_t rfl rfl ?_ rfl) ?_
    · exact decide_eq_true (by assumption)
    refine GOps.nil ?_
    refine GWP.cond_t rfl ?_ ?_
    · with_reducible rfl
    refine GWP.seq ?_
    refine GWP.region ?_
    refine GOps.r rfl rfl rfl rfl (grd_assign rfl rfl) ?_
    refine GOps.nil ?_
    refine GWP.ret ?_
    refine ⟨_, .one rfl, ?_⟩
    refine ⟨?_, ?_⟩
    · rfl
    refine HExt.push ?_
    · exact HExt.refl _ _
set_option maxHeartbeats 4000000 in
set_option maxRecDepth 100000 in
set_option linter.unusedSimpArgs false in
theorem g_rbytesT (H : Hp) (a b c d e : Nat) (h1 : a ≤ 1073741824) (h2 : b ≤ 1073741824) (h3 : c ≤ 1073741824) (h4 : d ≤ 1073741824) (h5 : e ≤ 1073741824) : GCalls Try.prog 111 [blkV 84 a b c d e []] [] H fun v H' => (∃ p' c', v = .slice p' ((segL 84 a b c d e).length + 4) c' ∧ BS H' (.slice p' ((segL 84 a b c d e).length + 4) c') (sealL (segL 84 a b c d e))) ∧ HExt [] H H' := by
  have hk0 : (84 : Int) = ((84 : UInt8).toNat : Int) := rfl
  have ea := enc_le a (by omega)
  have eb := enc_le b (by omega)
  have ec := enc_le c (by omega)
  have ed := enc_le d (by omega)
  have ee := enc_le e (by omega)
  have pa := enc_pos a
  have pb := enc_pos b
  have pc := enc_pos c
  have pd := enc_pos d
  have pe := enc_pos e
  have hN : ∀ (n : Nat), n ≤ 1073741824 → ∀ H mi, mi = (n : Int) → GCalls Try.prog 102 [.int .u64 mi] [] H fun v H' => (∃ p c, v = .slice p (enc n).length c ∧ BS H' (.slice p (enc n).length c) (enc n)) ∧ HExt [] H H' := fun n hn H mi h => (g_refnum n (by omega) H mi h).mono fun v H' h => h.bs
  unfold blkV
  refine GCalls.body tab_is Try.func111 rfl Try.results111 Try.ntmps111 (by simp) ?_ ?_
  · first | (intro _ h; cases h; done) | (simp; done) | (simp; omega) | (intro i hi; simp at hi; rcases hi with rfl | rfl <;> omega) | (intro i hi; simp at hi; rcases hi with rfl | rfl | rfl <;> omega)
  focus
    refine GWP.seq ?_
    refine GWP.region ?_
    focus
      refine GOps.w1 rfl rfl rfl rfl (gop_box' (id := ?_) ?_ rfl rfl rfl) ?_
      rotate_left 1
      · rfl
    refine GOps.r rfl rfl rfl rfl (grd_assign rfl rfl) ?_
    refine GOps.nil ?_
    refine GWP.seq ?_
    refine GWP.region ?_
    refine GOps.r rfl rfl rfl rfl (grd_fieldAddr tab_is rfl rfl rfl rfl rfl) ?_
    focus
      refine GOps.r rfl rfl rfl rfl (grd_load1 (b := ?_) (v := ?_) tab_is rfl rfl rfl rfl ?_ ?_) ?_
      rotate_left 2
      · exact Hp.at_push_eq
      · rfl
    focus
      refine GOps.w1 rfl rfl rfl rfl (gop_lit (id := ?_) (cs := ?_) ?_ tab_is rfl rfl rfl ?_ ?_ rfl ?_ ?_) ?_
      rotate_left 2
      · simp; rfl
      · decide
      · decide
      · simp [gfill, gsets, Value.cells]; rfl
      · rfl
    refine GOps.r rfl rfl rfl rfl (grd_assign rfl rfl) ?_
    refine GOps.nil ?_
    refine GWP.seq ?_
    refine GWP.seq ?_
    refine GWP.region ?_
    refine GOps.r rfl rfl rfl rfl (grd_fieldAddr tab_is rfl rfl rfl rfl rfl) ?_
    focus
      refine GOps.r rfl rfl rfl rfl (grd_load1 (b := ?_) (v := ?_) tab_is rfl rfl rfl rfl ?_ ?_) ?_
      rotate_left 2
      refine (Hp.at_push_lt ?_).trans ?_
      · simp; done
      · exact Hp.at_push_eq
      · rfl
    refine GOps.r rfl rfl rfl rfl (grd_eql rfl rfl rfl) ?_
    refine GOps.nil ?_
    refine GWP.cond_f rfl ?_ ?_
    · exact decide_eq_false (by omega)
    refine GWP.skip ?_
    refine GWP.seq ?_
    refine GWP.seq ?_
    refine GWP.region ?_
    refine GOps.r rfl rfl rfl rfl (grd_assign rfl rfl) ?_
    refine GOps.nil ?_
    refine GWP.block ?_
    refine GWP.loopN 6 ?_
    refine GRounds.step ?_
    refine GWP.seq ?_
    refine GWP.seq ?_
    refine GWP.region ?_
    refine GOps.r rfl rfl rfl rfl (grd_move rfl rfl) ?_
    refine GOps.r rfl rfl rfl rfl (grd_lss rfl rfl rfl) ?_
    refine GOps.nil ?_
    refine GWP.cond_t rfl ?_ ?_
    · exact decide_eq_true (by omega)
    refine GWP.skip ?_
    refine GWP.seq ?_
    refine GWP.block ?_
    refine GWP.region ?_
    refine GOps.r rfl rfl rfl rfl (grd_move rfl rfl) ?_
    refine GOps.r rfl rfl rfl rfl (grd_move rfl rfl) ?_
    refine GOps.r rfl rfl rfl rfl (grd_fieldAddr tab_is rfl rfl rfl rfl rfl) ?_
    refine GOps.r rfl rfl rfl rfl (grd_indexAddrA1 tab_is rfl rfl rfl rfl rfl ?_) ?_
    · simp; done
    focus
      refine GOps.r rfl rfl rfl rfl (grd_load1 (b := ?_) (v := ?_) tab_is rfl rfl rfl rfl ?_ ?_) ?_
      rotate_left 2
      refine (Hp.at_push_lt ?_).trans ?_
      · simp; done
      · exact Hp.at_push_eq
      · rfl
    refine GOps.r rfl rfl rfl rfl (grd_conv_in tab_is rfl rfl rfl rfl rfl ?_) ?_
    · refine wrap_u64_in ?_; omega
    refine GOps.w rfl rfl rfl rfl (gop_call rfl Try.call102 rfl ?_ (hN a h1 _ _ ?_)) ?_
    · intro _ h; cases h; done
    · rfl
    rintro _ Hxc4 ⟨⟨pc1, cc2, rfl, bc3⟩, xc4⟩
    have xc4l := HExt.len xc4; try simp at xc4l
    focus
      refine GOps.w1 rfl rfl rfl rfl (gop_fullB (id := ?_) (L := ?_) (M := ?_) (K := ?_) ?_ tab_is rfl rfl rfl rfl ?_ ?_ ?_ (gsrc_bs rfl rfl rfl ?_) ?_ ?_ ?_ ?_) ?_
      rotate_left 4
      · rfl
      refine bs_b1 (b := ?_) (u := ?_) ?_ ?_ ?_ ?_
      rotate_left 2
      refine (HExt.eq (by assumption) _ ?_ ?_).trans ?_
      · simp; done
      · intro h; cases h; done
      refine Hp.at_push_id ?_
      · simp; done
      · rfl
      · exact congrArg (fun z : Int => [Value.int .u8 z]) (by assumption)
      · rfl
      · decide
      · omega
      · assumption
      · exact BS.len (by assumption)
      · rfl
      · omega
      · omega
    refine GOps.r rfl rfl rfl rfl (grd_assign rfl rfl) ?_
    refine GOps.nil ?_
    refine GWP.region ?_
    refine GOps.r rfl rfl rfl rfl (grd_move rfl rfl) ?_
    refine GOps.r rfl rfl rfl rfl (grd_add64 rfl rfl rfl ?_) ?_
    · omega
    refine GOps.r rfl rfl rfl rfl (grd_assign rfl rfl) ?_
    refine GOps.nil ?_
    refine GRounds.step ?_
    refine GWP.seq ?_
    refine GWP.seq ?_
    refine GWP.region ?_
    refine GOps.r rfl rfl rfl rfl (grd_move rfl rfl) ?_
    refine GOps.r rfl rfl rfl rfl (grd_lss rfl rfl rfl) ?_
    refine GOps.nil ?_
    refine GWP.cond_t rfl ?_ ?_
    · exact decide_eq_true (by omega)
    refine GWP.skip ?_
    refine GWP.seq ?_
    refine GWP.block ?_
    refine GWP.region ?_
    refine GOps.r rfl rfl rfl rfl (grd_move rfl rfl) ?_
    refine GOps.r rfl rfl rfl rfl (grd_move rfl rfl) ?_
    refine GOps.r rfl rfl rfl rfl (grd_fieldAddr tab_is rfl rfl rfl rfl rfl) ?_
    refine GOps.r rfl rfl rfl rfl (grd_indexAddrA1 tab_is rfl rfl rfl rfl rfl ?_) ?_
    · simp; done
    focus
      refine GOps.r rfl rfl rfl rfl (grd_load1 (b := ?_) (v := ?_) tab_is rfl rfl rfl rfl ?_ ?_) ?_
      rotate_left 2
      refine (Hp.at_push_lt ?_).trans ?_
      · omega
      refine (HExt.eq (by assumption) _ ?_ ?_).trans ?_
      · simp; omega
      · intro h; cases h; done
      refine (Hp.at_push_lt ?_).trans ?_
      · simp; done
      · exact Hp.at_push_eq
      · rfl
    refine GOps.r rfl rfl rfl rfl (grd_conv_in tab_is rfl rfl rfl rfl rfl ?_) ?_
    · refine wrap_u64_in ?_; omega
    refine GOps.w rfl rfl rfl rfl (gop_call rfl Try.call102 rfl ?_ (hN b h2 _ _ ?_)) ?_
    · intro _ h; cases h; done
    · rfl
    rintro _ Hxc8 ⟨⟨pc5, cc6, rfl, bc7⟩, xc8⟩
    have xc8l := HExt.len xc8; try simp at xc8l
    focus
      refine GOps.w1 rfl rfl rfl rfl (gop_ownB (id := ?_) (b := ?_) (L := ?_) (M := ?_) (K := ?_) ?_ tab_is rfl rfl rfl rfl ?_ ?_ ?_ ?_ ?_ ?_ ?_ (gsrc_bs rfl rfl rfl ?_) ?_ ?_ ?_ ?_) ?_
      rotate_left 5
      · rfl
      refine (HExt.eq (by assumption) _ ?_ ?_).trans ?_
      · simp; done
      · intro h; cases h; done
      · exact Hp.at_push_eq
      · rfl
      · rfl
      · rfl
      · simp; omega
      · omega
      · exact .inr (by simp; omega)
      · assumption
      · exact BS.len (by assumption)
      · rfl
      · omega
      · omega
    refine GOps.r rfl rfl rfl rfl (grd_assign rfl rfl) ?_
    refine GOps.nil ?_
    refine GWP.region ?_
    refine GOps.r rfl rfl rfl rfl (grd_move rfl rfl) ?_
    refine GOps.r rfl rfl rfl rfl (grd_add64 rfl rfl rfl ?_) ?_
    · omega
    refine GOps.r rfl rfl rfl rfl (grd_assign rfl rfl) ?_
    refine GOps.nil ?_
    refine GRounds.step ?_
    refine GWP.seq ?_
    refine GWP.seq ?_
    refine GWP.region ?_
    refine GOps.r rfl rfl rfl rfl (grd_move rfl rfl) ?_
    refine GOps.r rfl rfl rfl rfl (grd_lss rfl rfl rfl) ?_
    refine GOps.nil ?_
    refine GWP.cond_t rfl ?_ ?_
    · exact decide_eq_true (by omega)
    refine GWP.skip ?_
    refine GWP.seq ?_
    refine GWP.block ?_
    refine GWP.region ?_
    refine GOps.r rfl rfl rfl rfl (grd_move rfl rfl) ?_
    refine GOps.r rfl rfl rfl rfl (grd_move rfl rfl) ?_
    refine GOps.r rfl rfl rfl rfl (grd_fieldAddr tab_is rfl rfl rfl rfl rfl) ?_
    refine GOps.r rfl rfl rfl rfl (grd_indexAddrA1 tab_is rfl rfl rfl rfl rfl ?_) ?_
    · simp; done
    focus
      refine GOps.r rfl rfl rfl rfl (grd_load1 (b := ?_) (v := ?_) tab_is rfl rfl rfl rfl ?_ ?_) ?_
      rotate_left 2
      refine (Hp.at_push_lt ?_).trans ?_
      · simp; omega
      refine (Hp.at_kill_ne ?_).trans ?_
      · omega
      refine (HExt.eq (by assumption) _ ?_ ?_).trans ?_
      · simp; omega
      · intro h; cases h; done
      refine (Hp.at_push_lt ?_).trans ?_
      · omega
      refine (HExt.eq (by assumption) _ ?_ ?_).trans ?_
      · simp; omega
      · intro h; cases h; done
      refine (Hp.at_push_lt ?_).trans ?_
      · simp; done
      · exact Hp.at_push_eq
      · rfl
    refine GOps.r rfl rfl rfl rfl (grd_conv_in tab_is rfl rfl rfl rfl rfl ?_) ?_
    · refine wrap_u64_in ?_; omega
    refine GOps.w rfl rfl rfl rfl (gop_call rfl Try.call102 rfl ?_ (hN c h3 _ _ ?_)) ?_
    · intro _ h; cases h; done
    · rfl
    rintro _ Hxc12 ⟨⟨pc9, cc10, rfl, bc11⟩, xc12⟩
    have xc12l := HExt.len xc12; try simp at xc12l
    focus
      refine GOps.w1 rfl rfl rfl rfl (gop_ownB (id := ?_) (b := ?_) (L := ?_) (M := ?_) (K := ?_) ?_ tab_is rfl rfl rfl rfl ?_ ?_ ?_ ?_ ?_ ?_ ?_ (gsrc_bs rfl rfl rfl ?_) ?_ ?_ ?_ ?_) ?_
      rotate_left 5
      · rfl
      refine (HExt.eq (by assumption) _ ?_ ?_).trans ?_
      · simp; done
      · intro h; cases h; done
      refine Hp.at_push_id ?_
      · simp; done
      · rfl
      · rfl
      · rfl
      · simp; omega
      · omega
      · exact .inr (by simp; omega)
      · assumption
      · exact BS.len (by assumption)
      · rfl
      · omega
      · omega
    refine GOps.r rfl rfl rfl rfl (grd_assign rfl rfl) ?_
    refine GOps.nil ?_
    refine GWP.region ?_
    refine GOps.r rfl rfl rfl rfl (grd_move rfl rfl) ?_
    refine GOps.r rfl rfl rfl rfl (grd_add64 rfl rfl rfl ?_) ?_
    · omega
    refine GOps.r rfl rfl rfl rfl (grd_assign rfl rfl) ?_
    refine GOps.nil ?_
    refine GRounds.step ?_
    refine GWP.seq ?_
    refine GWP.seq ?_
    refine GWP.region ?_
    refine GOps.r rfl rfl rfl rfl (grd_move rfl rfl) ?_
    refine GOps.r rfl rfl rfl rfl (grd_lss rfl rfl rfl) ?_
    refine GOps.nil ?_
    refine GWP.cond_t rfl ?_ ?_
    · exact decide_eq_true (by omega)
    refine GWP.skip ?_
    refine GWP.seq ?_
    refine GWP.block ?_
    refine GWP.region ?_
    refine GOps.r rfl rfl rfl rfl (grd_move rfl rfl) ?_
    refine GOps.r rfl rfl rfl rfl (grd_move rfl rfl) ?_
    refine GOps.r rfl rfl rfl rfl (grd_fieldAddr tab_is rfl rfl rfl rfl rfl) ?_
    refine GOps.r rfl rfl rfl rfl (grd_indexAddrA1 tab_is rfl rfl rfl rfl rfl ?_) ?_
    · simp; done
    focus
      refine GOps.r rfl rfl rfl rfl (grd_load1 (b := ?_) (v := ?_) tab_is rfl rfl rfl rfl ?_ ?_) ?_
      rotate_left 2
      refine (Hp.at_push_lt ?_).trans ?_
      · simp; omega
      refine (Hp.at_kill_ne ?_).trans ?_
      · omega
      refine (HExt.eq (by assumption) _ ?_ ?_).trans ?_
      · simp; omega
      · intro h; cases h; done
      refine (Hp.at_push_lt ?_).trans ?_
      · simp; omega
      refine (Hp.at_kill_ne ?_).trans ?_
      · omega
      refine (HExt.eq (by assumption) _ ?_ ?_).trans ?_
      · simp; omega
      · intro h; cases h; done
      refine (Hp.at_push_lt ?_).trans ?_
      · omega
      refine (HExt.eq (by assumption) _ ?_ ?_).trans ?_
      · simp; omega
      · intro h; cases h; done
      refine (Hp.at_push_lt ?_).trans ?_
      · simp; done
      · exact Hp.at_push_eq
      · rfl
    refine GOps.r rfl rfl rfl rfl (grd_conv_in tab_is rfl rfl rfl rfl rfl ?_) ?_
    · refine wrap_u64_in ?_; omega
    refine GOps.w rfl rfl rfl rfl (gop_call rfl Try.call102 rfl ?_ (hN d h4 _ _ ?_)) ?_
    · intro _ h; cases h; done
    · rfl
    rintro _ Hxc16 ⟨⟨pc13, cc14, rfl, bc15⟩, xc16⟩
    have xc16l := HExt.len xc16; try simp at xc16l
    focus
      refine GOps.w1 rfl rfl rfl rfl (gop_ownB (id := ?_) (b := ?_) (L := ?_) (M := ?_) (K := ?_) ?_ tab_is rfl rfl rfl rfl ?_ ?_ ?_ ?_ ?_ ?_ ?_ (gsrc_bs rfl rfl rfl ?_) ?_ ?_ ?_ ?_) ?_
      rotate_left 5
      · rfl
      refine (HExt.eq (by assumption) _ ?_ ?_).trans ?_
      · simp; done
      · intro h; cases h; done
      refine Hp.at_push_id ?_
      · simp; done
      · rfl
      · rfl
      · rfl
      · simp; omega
      · omega
      · exact .inr (by simp; omega)
      · assumption
      · exact BS.len (by assumption)
      · rfl
      · omega
      · omega
    refine GOps.r rfl rfl rfl rfl (grd_assign rfl rfl) ?_
    refine GOps.nil ?_
    refine GWP.region ?_
    refine GOps.r rfl rfl rfl rfl (grd_move rfl rfl) ?_
    refine GOps.r rfl rfl rfl rfl (grd_add64 rfl rfl rfl ?_) ?_
    · omega
    refine GOps.r rfl rfl rfl rfl (grd_assign rfl rfl) ?_
    refine GOps.nil ?_
    refine GRounds.step ?_
    refine GWP.seq ?_
    refine GWP.seq ?_
    refine GWP.region ?_
    refine GOps.r rfl rfl rfl rfl (grd_move rfl rfl) ?_
    refine GOps.r rfl rfl rfl rfl (grd_lss rfl rfl rfl) ?_
    refine GOps.nil ?_
    refine GWP.cond_t rfl ?_ ?_
    · exact decide_eq_true (by omega)
    refine GWP.skip ?_
    refine GWP.seq ?_
    refine GWP.block ?_
    refine GWP.region ?_
    refine GOps.r rfl rfl rfl rfl (grd_move rfl rfl) ?_
    refine GOps.r rfl rfl rfl rfl (grd_move rfl rfl) ?_
    refine GOps.r rfl rfl rfl rfl (grd_fieldAddr tab_is rfl rfl rfl rfl rfl) ?_
    refine GOps.r rfl rfl rfl rfl (grd_indexAddrA1 tab_is rfl rfl rfl rfl rfl ?_) ?_
    · simp; done
    focus
      refine GOps.r rfl rfl rfl rfl (grd_load1 (b := ?_) (v := ?_) tab_is rfl rfl rfl rfl ?_ ?_) ?_
      rotate_left 2
      refine (Hp.at_push_lt ?_).trans ?_
      · simp; omega
      refine (Hp.at_kill_ne ?_).trans ?_
      · omega
      refine (HExt.eq (by assumption) _ ?_ ?_).trans ?_
      · simp; omega
      · intro h; cases h; done
      refine (Hp.at_push_lt ?_).trans ?_
      · simp; omega
      refine (Hp.at_kill_ne ?_).trans ?_
      · omega
      refine (HExt.eq (by assumption) _ ?_ ?_).trans ?_
      · simp; omega
      · intro h; cases h; done
      refine (Hp.at_push_lt ?_).trans ?_
      · simp; omega
      refine (Hp.at_kill_ne ?_).trans ?_
      · omega
      refine (HExt.eq (by assumption) _ ?_ ?_).trans ?_
      · simp; omega
      · intro h; cases h; done
      refine (Hp.at_push_lt ?_).trans ?_
      · omega
      refine (HExt.eq (by assumption) _ ?_ ?_).trans ?_
      · simp; omega
      · intro h; cases h; done
      refine (Hp.at_push_lt ?_).trans ?_
      · simp; done
      · exact Hp.at_push_eq
      · rfl
    refine GOps.r rfl rfl rfl rfl (grd_conv_in tab_is rfl rfl rfl rfl rfl ?_) ?_
    · refine wrap_u64_in ?_; omega
    refine GOps.w rfl rfl rfl rfl (gop_call rfl Try.call102 rfl ?_ (hN e h5 _ _ ?_)) ?_
    · intro _ h; cases h; done
    · rfl
    rintro _ Hxc20 ⟨⟨pc17, cc18, rfl, bc19⟩, xc20⟩
    have xc20l := HExt.len xc20; try simp at xc20l
    focus
      refine GOps.w1 rfl rfl rfl rfl (gop_ownB (id := ?_) (b := ?_) (L := ?_) (M := ?_) (K := ?_) ?_ tab_is rfl rfl rfl rfl ?_ ?_ ?_ ?_ ?_ ?_ ?_ (gsrc_bs rfl rfl rfl ?_) ?_ ?_ ?_ ?_) ?_
      rotate_left 5
      · rfl
      refine (HExt.eq (by assumption) _ ?_ ?_).trans ?_
      · simp; done
      · intro h; cases h; done
      refine Hp.at_push_id ?_
      · simp; done
      · rfl
      · rfl
      · rfl
      · simp; omega
      · omega
      · exact .inr (by simp; omega)
      · assumption
      · exact BS.len (by assumption)
      · rfl
      · omega
      · omega
    refine GOps.r rfl rfl rfl rfl (grd_assign rfl rfl) ?_
    refine GOps.nil ?_
    refine GWP.region ?_
    refine GOps.r rfl rfl rfl rfl (grd_move rfl rfl) ?_
    refine GOps.r rfl rfl rfl rfl (grd_add64 rfl rfl rfl ?_) ?_
    · omega
    refine GOps.r rfl rfl rfl rfl (grd_assign rfl rfl) ?_
    refine GOps.nil ?_
    refine GRounds.step ?_
    refine GWP.seq ?_
    refine GWP.seq ?_
    refine GWP.region ?_
    refine GOps.r rfl rfl rfl rfl (grd_move rfl rfl) ?_
    refine GOps.r rfl rfl rfl rfl (grd_lss rfl rfl rfl) ?_
    refine GOps.nil ?_
    refine GWP.cond_f rfl ?_ ?_
    · exact decide_eq_false (by omega)
    refine GWP.exit ?_
    refine GWP.seq ?_
    refine GWP.region ?_
    refine GOps.r rfl rfl rfl rfl (grd_move rfl rfl) ?_
    focus
      refine GOps.w rfl rfl rfl rfl (gop_call rfl Try.call146 rfl ?_ (g_rseal2 _ _ _ _ ?_ ?_ ?_)) ?_
      · intro _ h; cases h; done
      rotate_left 1
      focus
        refine bs_row (b := ?_) ?_ ?_ ?_ ?_
        rotate_left 1
        refine Hp.at_push_id ?_
        · simp; done
        · rfl
        · rfl
        · simp; omega
      · omega
    rintro _ Hxc24 ⟨pc21, cc22, rfl, sc23, xc24⟩
    have xc24l := HExt.len xc24; try simp at xc24l
    refine GOps.r rfl rfl rfl rfl (grd_assign rfl rfl) ?_
    refine GOps.nil ?_
    refine GWP.ret ?_
    refine ⟨_, .one rfl, ?_⟩
    refine ⟨?_, ?_⟩
    · exact fin_sealE (by assumption) (by simp [segL, encs_cons, encs_nil])
    refine HExt.tr ?_ (by assumption) ?_
    refine HExt.push ?_
    refine HExt.kill ?_ ?_
    refine HExt.tr ?_ (by assumption) ?_
    refine HExt.push ?_
    refine HExt.kill ?_ ?_
    refine HExt.tr ?_ (by assumption) ?_
    refine HExt.push ?_
    refine HExt.kill ?_ ?_
    refine HExt.tr ?_ (by assumption) ?_
    refine HExt.push ?_
    refine HExt.kill ?_ ?_
    refine HExt.tr ?_ (by assumption) ?_
    refine HExt.push ?_
    refine HExt.tr ?_ (by assumption) ?_
    refine HExt.push ?_
    refine HExt.push ?_
    · exact HExt.refl _ _
    · intro _ h; cases h; done
    · intro _ h; cases h; done
    · exact .inr (by omega)
    · intro _ h; cases h; done
    · exact .inr (by omega)
    · intro _ h; cases h; done
    · exact .inr (by omega)
    · intro _ h; cases h; done
    · exact .inr (by omega)
    · intro _ h; cases h; done
set_option maxHeartbeats 4000000 in
set_option maxRecDepth 100000 in
set_option linter.unusedSimpArgs false in
theorem g_rightNotT (H : Hp) (a b c d e : Int) (hr : ¬ (okN a ∧ okN b ∧ okN c ∧ okN d ∧ okN e)) : GCalls Try.prog 108 [blkV 84 a b c d e []] [] H fun v H' => v = .bool false ∧ HExt [] H H' := by
  unfold okN at hr
  unfold blkV
  refine GCalls.body tab_is Try.func108 rfl Try.results108 Try.ntmps108 (by simp) ?_ ?_
  · first | (intro _ h; cases h; done) | (simp; done) | (simp; omega) | (intro i hi; simp at hi; rcases hi with rfl | rfl <;> omega) | (intro i hi; simp at hi; rcases hi with rfl | rfl | rfl <;> omega)
  focus
    refine GWP.seq ?_
    refine GWP.region ?_
    focus
      refine GOps.w1 rfl rfl rfl rfl (gop_box' (id := ?_) ?_ rfl rfl rfl) ?_
      rotate_left 1
      · rfl
    refine GOps.r rfl rfl rfl rfl (grd_assign rfl rfl) ?_
    refine GOps.nil ?_
    refine GWP.seq ?_
    refine GWP.seq ?_
    refine GWP.region ?_
    refine GOps.r rfl rfl rfl rfl (grd_assign rfl rfl) ?_
    refine GOps.nil ?_
    refine GWP.block ?_
    refine GWP.loopN 6 ?_
    refine GRounds.step ?_
    refine GWP.seq ?_
    refine GWP.seq ?_
    refine GWP.region ?_
    refine GOps.r rfl rfl rfl rfl (grd_move rfl rfl) ?_
    refine GOps.r rfl rfl rfl rfl (grd_lss rfl rfl rfl) ?_
    refine GOps.nil ?_
    refine GWP.cond_t rfl ?_ ?_
    · exact decide_eq_true (by omega)
    refine GWP.skip ?_
    refine GWP.seq ?_
    refine GWP.block ?_
    refine GWP.seq ?_
    refine GWP.region ?_
    refine GOps.r rfl rfl rfl rfl (grd_move rfl rfl) ?_
    refine GOps.r rfl rfl rfl rfl (grd_fieldAddr tab_is rfl rfl rfl rfl rfl) ?_
    refine GOps.r rfl rfl rfl rfl (grd_indexAddrA1 tab_is rfl rfl rfl rfl rfl ?_) ?_
    · simp; done
    focus
      refine GOps.r rfl rfl rfl rfl (grd_load1 (b := ?_) (v := ?_) tab_is rfl rfl rfl rfl ?_ ?_) ?_
      rotate_left 2
      · exact Hp.at_push_eq
      · rfl
    refine GOps.r rfl rfl rfl rfl (grd_lss rfl rfl rfl) ?_
    refine GOps.r rfl rfl rfl rfl (grd_move rfl rfl) ?_
    refine GOps.split rfl rfl (fun cr1 => ?_) (fun cr1 => ?_)
    simp only [beq_true, beq_false, Bool.not_true, Bool.not_false, Bool.not_eq_true', Bool.not_eq_false', decide_eq_true_eq, decide_eq_false_iff_not] at cr1
    refine GOps.take rfl rfl ?_ ?_
    · exact beq_iff_eq.2 (decide_eq_false (by assumption))
    refine GOps.r rfl rfl rfl rfl (grd_move rfl rfl) ?_
    refine GOps.take rfl rfl ?_ ?_
    · exact beq_iff_eq.2 (decide_eq_false (by assumption))
    refine GOps.r rfl rfl rfl rfl (grd_fieldAddr tab_is rfl rfl rfl rfl rfl) ?_
    refine GOps.take rfl rfl ?_ ?_
    · exact beq_iff_eq.2 (decide_eq_false (by assumption))
    refine GOps.r rfl rfl rfl rfl (grd_indexAddrA1 tab_is rfl rfl rfl rfl rfl ?_) ?_
    · simp; done
    refine GOps.take rfl rfl ?_ ?_
    · exact beq_iff_eq.2 (decide_eq_false (by assumption))
    focus
      refine GOps.r rfl rfl rfl rfl (grd_load1 (b := ?_) (v := ?_) tab_is rfl rfl rfl rfl ?_ ?_) ?_
      rotate_left 2
      · exact Hp.at_push_eq
      · rfl
    refine GOps.take rfl rfl ?_ ?_
    · exact beq_iff_eq.2 (decide_eq_false (by assumption))
    refine GOps.r rfl rfl rfl rfl (grd_gtr rfl rfl rfl) ?_
    refine GOps.r rfl rfl rfl rfl (grd_pick_f rfl rfl ?_ rfl) ?_
    · exact decide_eq_false (by assumption)
    refine GOps.nil ?_
    refine GWP.cond rfl (fun cr2 => ?_) (fun cr2 => ?_)
    simp only [beq_true, beq_false, Bool.not_true, Bool.not_false, Bool.not_eq_true', Bool.not_eq_false', decide_eq_true_eq, decide_eq_false_iff_not] at cr2
    refine GWP.seq ?_
    refine GWP.region ?_
    refine GOps.r rfl rfl rfl rfl (grd_assign rfl rfl) ?_
    refine GOps.nil ?_
    refine GWP.ret ?_
    refine ⟨_, .one rfl, ?_⟩
    refine ⟨?_, ?_⟩
    · rfl
    refine HExt.push ?_
    · exact HExt.refl _ _
    simp only [beq_true, beq_false, Bool.not_true, Bool.not_false, Bool.not_eq_true', Bool.not_eq_false', decide_eq_true_eq, decide_eq_false_iff_not] at cr2
    refine GWP.skip ?_
    refine GWP.region ?_
    refine GOps.r rfl rfl rfl rfl (grd_move rfl rfl) ?_
    refine GOps.r rfl rfl rfl rfl (grd_add64 rfl rfl rfl ?_) ?_
    · omega
    refine GOps.r rfl rfl rfl rfl (grd_assign rfl rfl) ?_
    refine GOps.nil ?_
    refine GRounds.step ?_
    refine GWP.seq ?_
    refine GWP.seq ?_
    refine GWP.region ?_
    refine GOps.r rfl rfl rfl rfl (grd_move rfl rfl) ?_
    refine GOps.r rfl rfl rfl rfl (grd_lss rfl rfl rfl) ?_
    refine GOps.nil ?_
    refine GWP.cond_t rfl ?_ ?_
    · exact decide_eq_true (by omega)
    refine GWP.skip ?_
    refine GWP.seq ?_
    refine GWP.block ?_
    refine GWP.seq ?_
    refine GWP.region ?_
    refine GOps.r rfl rfl rfl rfl (grd_move rfl rfl) ?_
    refine GOps.r rfl rfl rfl rfl (grd_fieldAddr tab_is rfl rfl rfl rfl rfl) ?_
    refine GOps.r rfl rfl rfl rfl (grd_indexAddrA1 tab_is rfl rfl rfl rfl rfl ?_) ?_
    · simp; done
    focus
      refine GOps.r rfl rfl rfl rfl (grd_load1 (b := ?_) (v := ?_) tab_is rfl rfl rfl rfl ?_ ?_) ?_
      rotate_left 2
      · exact Hp.at_push_eq
      · rfl
    refine GOps.r rfl rfl rfl rfl (grd_lss rfl rfl rfl) ?_
    refine GOps.r rfl rfl rfl rfl (grd_move rfl rfl) ?_
    refine GOps.split rfl rfl (fun cr3 => ?_) (fun cr3 => ?_)
    simp only [beq_true, beq_false, Bool.not_true, Bool.not_false, Bool.not_eq_true', Bool.not_eq_false', decide_eq_true_eq, decide_eq_false_iff_not] at cr3
    refine GOps.take rfl rfl ?_ ?_
    · exact beq_iff_eq.2 (decide_eq_false (by assumption))
    refine GOps.r rfl rfl rfl rfl (grd_move rfl rfl) ?_
    refine GOps.take rfl rfl ?_ ?_
    · exact beq_iff_eq.2 (decide_eq_false (by assumption))
    refine GOps.r rfl rfl rfl rfl (grd_fieldAddr tab_is rfl rfl rfl rfl rfl) ?_
    refine GOps.take rfl rfl ?_ ?_
    · exact beq_iff_eq.2 (decide_eq_false (by assumption))
    refine GOps.r rfl rfl rfl rfl (grd_indexAddrA1 tab_is rfl rfl rfl rfl rfl ?_) ?_
    · simp; done
    refine GOps.take rfl rfl ?_ ?_
    · exact beq_iff_eq.2 (decide_eq_false (by assumption))
    focus
      refine GOps.r rfl rfl rfl rfl (grd_load1 (b := ?_) (v := ?_) tab_is rfl rfl rfl rfl ?_ ?_) ?_
      rotate_left 2
      · exact Hp.at_push_eq
      · rfl
    refine GOps.take rfl rfl ?_ ?_
    · exact beq_iff_eq.2 (decide_eq_false (by assumption))
    refine GOps.r rfl rfl rfl rfl (grd_gtr rfl rfl rfl) ?_
    refine GOps.r rfl rfl rfl rfl (grd_pick_f rfl rfl ?_ rfl) ?_
    · exact decide_eq_false (by assumption)
    refine GOps.nil ?_
    refine GWP.cond rfl (fun cr4 => ?_) (fun cr4 => ?_)
    simp only [beq_true, beq_false, Bool.not_true, Bool.not_false, Bool.not_eq_true', Bool.not_eq_false', decide_eq_true_eq, decide_eq_false_iff_not] at cr4
    refine GWP.seq ?_
    refine GWP.region ?_
    refine GOps.r rfl rfl rfl rfl (grd_assign rfl rfl) ?_
    refine GOps.nil ?_
    refine GWP.ret ?_
    refine ⟨_, .one rfl, ?_⟩
    refine ⟨?_, ?_⟩
    · rfl
    refine HExt.push ?_
    · exact HExt.refl _ _
    simp only [beq_true, beq_false, Bool.not_true, Bool.not_false, Bool.not_eq_true', Bool.not_eq_false', decide_eq_true_eq, decide_eq_false_iff_not] at cr4
    refine GWP.skip ?_
    refine GWP.region ?_
    refine GOps.r rfl rfl rfl rfl (grd_move rfl rfl) ?_
    refine GOps.r rfl rfl rfl rfl (grd_add64 rfl rfl rfl ?_) ?_
    · omega
    refine GOps.r rfl rfl rfl rfl (grd_assign rfl rfl) ?_
    refine GOps.nil ?_
    refine GRounds.step ?_
    refine GWP.seq ?_
    refine GWP.seq ?_
    refine GWP.region ?_
    refine GOps.r rfl rfl rfl rfl (grd_move rfl rfl) ?_
    refine GOps.r rfl rfl rfl rfl (grd_lss rfl rfl rfl) ?_
    refine GOps.nil ?_
    refine GWP.cond_t rfl ?_ ?_
    · exact decide_eq_true (by omega)
    refine GWP.skip ?_
    refine GWP.seq ?_
    refine GWP.block ?_
    refine GWP.seq ?_
    refine GWP.region ?_
    refine GOps.r rfl rfl rfl rfl (grd_move rfl rfl) ?_
    refine GOps.r rfl rfl rfl rfl (grd_fieldAddr tab_is rfl rfl rfl rfl rfl) ?_
    refine GOps.r rfl rfl rfl rfl (grd_indexAddrA1 tab_is rfl rfl rfl rfl rfl ?_) ?_
    · simp; done
    focus
      refine GOps.r rfl rfl rfl rfl (grd_load1 (b := ?_) (v := ?_) tab_is rfl rfl rfl rfl ?_ ?_) ?_
      rotate_left 2
      · exact Hp.at_push_eq
      · rfl
    refine GOps.r rfl rfl rfl rfl (grd_lss rfl rfl rfl) ?_
    refine GOps.r rfl rfl rfl rfl (grd_move rfl rfl) ?_
    refine GOps.split rfl rfl (fun cr5 => ?_) (fun cr5 => ?_)
    simp only [beq_true, beq_false, Bool.not_true, Bool.not_false, Bool.not_eq_true', Bool.not_eq_false', decide_eq_true_eq, decide_eq_false_iff_not] at cr5
    refine GOps.take rfl rfl ?_ ?_
    · exact beq_iff_eq.2 (decide_eq_false (by assumption))
    refine GOps.r rfl rfl rfl rfl (grd_move rfl rfl) ?_
    refine GOps.take rfl rfl ?_ ?_
    · exact beq_iff_eq.2 (decide_eq_false (by assumption))
    refine GOps.r rfl rfl rfl rfl (grd_fieldAddr tab_is rfl rfl rfl rfl rfl) ?_
    refine GOps.take rfl rfl ?_ ?_
    · exact beq_iff_eq.2 (decide_eq_false (by assumption))
    refine GOps.r rfl rfl rfl rfl (grd_indexAddrA1 tab_is rfl rfl rfl rfl rfl ?_) ?_
    · simp; done
    refine GOps.take rfl rfl ?_ ?_
    · exact beq_iff_eq.2 (decide_eq_false (by assumption))
    focus
      refine GOps.r rfl rfl rfl rfl (grd_load1 (b := ?_) (v := ?_) tab_is rfl rfl rfl rfl ?_ ?_) ?_
      rotate_left 2
      · exact Hp.at_push_eq
      · rfl
    refine GOps.take rfl rfl ?_ ?_
    · exact beq_iff_eq.2 (decide_eq_false (by assumption))
    refine GOps.r rfl rfl rfl rfl (grd_gtr rfl rfl rfl) ?_
    refine GOps.r rfl rfl rfl rfl (grd_pick_f rfl rfl ?_ rfl) ?_
    · exact decide_eq_false (by assumption)
    refine GOps.nil ?_
    refine GWP.cond rfl (fun cr6 => ?_) (fun cr6 => ?_)
    simp only [beq_true, beq_false, Bool.not_true, Bool.not_false, Bool.not_eq_true', Bool.not_eq_false', decide_eq_true_eq, decide_eq_false_iff_not] at cr6
    refine GWP.seq ?_
    refine GWP.region ?_
    refine GOps.r rfl rfl rfl rfl (grd_assign rfl rfl) ?_
    refine GOps.nil ?_
    refine GWP.ret ?_
    refine ⟨_, .one rfl, ?_⟩
    refine ⟨?_, ?_⟩
    · rfl
    refine HExt.push ?_
    · exact HExt.refl _ _
    simp only [beq_true, beq_false, Bool.not_true, Bool.not_false, Bool.not_eq_true', Bool.not_eq_false', decide_eq_true_eq, decide_eq_false_iff_not] at cr6
    refine GWP.skip ?_
    refine GWP.region ?_
    refine GOps.r rfl rfl rfl rfl (grd_move rfl rfl) ?_
    refine GOps.r rfl rfl rfl rfl (grd_add64 rfl rfl rfl ?_) ?_
    · omega
    refine GOps.r rfl rfl rfl rfl (grd_assign rfl rfl) ?_
    refine GOps.nil ?_
    refine GRounds.step ?_
    refine GWP.seq ?_
    refine GWP.seq ?_
    refine GWP.region ?_
    refine GOps.r rfl rfl rfl rfl (grd_move rfl rfl) ?_
    refine GOps.r rfl rfl rfl rfl (grd_lss rfl rfl rfl) ?_
    refine GOps.nil ?_
    refine GWP.cond_t rfl ?_ ?_
    · exact decide_eq_true (by omega)
    refine GWP.skip ?_
    refine GWP.seq ?_
    refine GWP.block ?_
    refine GWP.seq ?_
    refine GWP.region ?_
    refine GOps.r rfl rfl rfl rfl (grd_move rfl rfl) ?_
    refine GOps.r rfl rfl rfl rfl (grd_fieldAddr tab_is rfl rfl rfl rfl rfl) ?_
    refine GOps.r rfl rfl rfl rfl (grd_indexAddrA1 tab_is rfl rfl rfl rfl rfl ?_) ?_
    · simp; done
    focus
      refine GOps.r rfl rfl rfl rfl (grd_load1 (b := ?_) (v := ?_) tab_is rfl rfl rfl rfl ?_ ?_) ?_
      rotate_left 2
      · exact Hp.at_push_eq
      · rfl
    refine GOps.r rfl rfl rfl rfl (grd_lss rfl rfl rfl) ?_
    refine GOps.r rfl rfl rfl rfl (grd_move rfl rfl) ?_
    refine GOps.split rfl rfl (fun cr7 => ?_) (fun cr7 => ?_)
    simp only [beq_true, beq_false, Bool.not_true, Bool.not_false, Bool.not_eq_true', Bool.not_eq_false', decide_eq_true_eq, decide_eq_false_iff_not] at cr7
    refine GOps.take rfl rfl ?_ ?_
    · exact beq_iff_eq.2 (decide_eq_false (by assumption))
    refine GOps.r rfl rfl rfl rfl (grd_move rfl rfl) ?_
    refine GOps.take rfl rfl ?_ ?_
    · exact beq_iff_eq.2 (decide_eq_false (by assumption))
    refine GOps.r rfl rfl rfl rfl (grd_fieldAddr tab_is rfl rfl rfl rfl rfl) ?_
    refine GOps.take rfl rfl ?_ ?_
    · exact beq_iff_eq.2 (decide_eq_false (by assumption))
    refine GOps.r rfl rfl rfl rfl (grd_indexAddrA1 tab_is rfl rfl rfl rfl rfl ?_) ?_
    · simp; done
    refine GOps.take rfl rfl ?_ ?_
    · exact beq_iff_eq.2 (decide_eq_false (by assumption))
    focus
      refine GOps.r rfl rfl rfl rfl (grd_load1 (b := ?_) (v := ?_) tab_is rfl rfl rfl rfl ?_ ?_) ?_
      rotate_left 2
      · exact Hp.at_push_eq
      · rfl
    refine GOps.take rfl rfl ?_ ?_
    · exact beq_iff_eq.2 (decide_eq_false (by assumption))
    refine GOps.r rfl rfl rfl rfl (grd_gtr rfl rfl rfl) ?_
    refine GOps.r rfl rfl rfl rfl (grd_pick_f rfl rfl ?_ rfl) ?_
    · exact decide_eq_false (by assumption)
    refine GOps.nil ?_
    refine GWP.cond rfl (fun cr8 => ?_) (fun cr8 => ?_)
    simp only [beq_true, beq_false, Bool.not_true, Bool.not_false, Bool.not_eq_true', Bool.not_eq_false', decide_eq_true_eq, decide_eq_false_iff_not] at cr8
    refine GWP.seq ?_
    refine GWP.region ?_
    refine GOps.r rfl rfl rfl rfl (grd_assign rfl rfl) ?_
    refine GOps.nil ?_
    refine GWP.ret ?_
    refine ⟨_, .one rfl, ?_⟩
    refine ⟨?_, ?_⟩
    · rfl
    refine HExt.push ?_
    · exact HExt.refl _ _
    simp only [beq_true, beq_false, Bool.not_true, Bool.not_false, Bool.not_eq_true', Bool.not_eq_false', decide_eq_true_eq, decide_eq_false_iff_not] at cr8
    refine GWP.skip ?_
    refine GWP.region ?_
    refine GOps.r rfl rfl rfl rfl (grd_move rfl rfl) ?_
    refine GOps.r rfl rfl rfl rfl (grd_add64 rfl rfl rfl ?_) ?_
    · omega
    refine GOps.r rfl rfl rfl rfl (grd_assign rfl rfl) ?_
    refine GOps.nil ?_
    refine GRounds.step ?_
    refine GWP.seq ?_
    refine GWP.seq ?_
    refine GWP.region ?_
    refine GOps.r rfl rfl rfl rfl (grd_move rfl rfl) ?_
    refine GOps.r rfl rfl rfl rfl (grd_lss rfl rfl rfl) ?_
    refine GOps.nil ?_
    refine GWP.cond_t rfl ?_ ?_
    · exact decide_eq_true (by omega)
    refine GWP.skip ?_
    refine GWP.seq ?_
    refine GWP.block ?_
    refine GWP.seq ?_
    refine GWP.region ?_
    refine GOps.r rfl rfl rfl rfl (grd_move rfl rfl) ?_
    refine GOps.r rfl rfl rfl rfl (grd_fieldAddr tab_is rfl rfl rfl rfl rfl) ?_
    refine GOps.r rfl rfl rfl rfl (grd_indexAddrA1 tab_is rfl rfl rfl rfl rfl ?_) ?_
    · simp; done
    focus
      refine GOps.r rfl rfl rfl rfl (grd_load1 (b := ?_) (v := ?_) tab_is rfl rfl rfl rfl ?_ ?_) ?_
      rotate_left 2
      · exact Hp.at_push_eq
      · rfl
    refine GOps.r rfl rfl rfl rfl (grd_lss rfl rfl rfl) ?_
    refine GOps.r rfl rfl rfl rfl (grd_move rfl rfl) ?_
    refine GOps.split rfl rfl (fun cr9 => ?_) (fun cr9 => ?_)
    simp only [beq_true, beq_false, Bool.not_true, Bool.not_false, Bool.not_eq_true', Bool.not_eq_false', decide_eq_true_eq, decide_eq_false_iff_not] at cr9
    refine GOps.take rfl rfl ?_ ?_
    · exact beq_iff_eq.2 (decide_eq_false (by assumption))
    refine GOps.r rfl rfl rfl rfl (grd_move rfl rfl) ?_
    refine GOps.take rfl rfl ?_ ?_
    · exact beq_iff_eq.2 (decide_eq_false (by assumption))
    refine GOps.r rfl rfl rfl rfl (grd_fieldAddr tab_is rfl rfl rfl rfl rfl) ?_
    refine GOps.take rfl rfl ?_ ?_
    · exact beq_iff_eq.2 (decide_eq_false (by assumption))
    refine GOps.r rfl rfl rfl rfl (grd_indexAddrA1 tab_is rfl rfl rfl rfl rfl ?_) ?_
    · simp; done
    refine GOps.take rfl rfl ?_ ?_
    · exact beq_iff_eq.2 (decide_eq_false (by assumption))
    focus
      refine GOps.r rfl rfl rfl rfl (grd_load1 (b := ?_) (v := ?_) tab_is rfl rfl rfl rfl ?_ ?_) ?_
      rotate_left 2
      · exact Hp.at_push_eq
      · rfl
    refine GOps.take rfl rfl ?_ ?_
    · exact beq_iff_eq.2 (decide_eq_false (by assumption))
    refine GOps.r rfl rfl rfl rfl (grd_gtr rfl rfl rfl) ?_
    refine GOps.r rfl rfl rfl rfl (grd_pick_f rfl rfl ?_ rfl) ?_
    · exact decide_eq_false (by assumption)
    refine GOps.nil ?_
    refine GWP.cond_t rfl ?_ ?_
    · exact decide_eq_true (by omega)
    refine GWP.seq ?_
    refine GWP.region ?_
    refine GOps.r rfl rfl rfl rfl (grd_assign rfl rfl) ?_
    refine GOps.nil ?_
    refine GWP.ret ?_
    refine ⟨_, .one rfl, ?_⟩
    refine ⟨?_, ?_⟩
    · rfl
    refine HExt.push ?_
    · exact HExt.refl _ _
    simp only [beq_true, beq_false, Bool.not_true, Bool.not_false, Bool.not_eq_true', Bool.not_eq_false', decide_eq_true_eq, decide_eq_false_iff_not] at cr9
    refine GOps.no rfl ?_ rfl rfl ?_
    · exact beq_eq_false_iff_ne.2 (by rw [decide_eq_true (by assumption)]; decide)
    refine GOps.no rfl ?_ rfl rfl ?_
    · exact beq_eq_false_iff_ne.2 (by rw [decide_eq_true (by assumption)]; decide)
    refine GOps.no rfl ?_ rfl rfl ?_
    · exact beq_eq_false_iff_ne.2 (by rw [decide_eq_true (by assumption)]; decide)
    refine GOps.no rfl ?_ rfl rfl ?_
    · exact beq_eq_false_iff_ne.2 (by rw [decide_eq_true (by assumption)]; decide)
    refine GOps.no rfl ?_ rfl rfl ?_
    · exact beq_eq_false_iff_ne.2 (by rw [decide_eq_true (by assumption)]; decide)
    refine GOps.r rfl rfl rfl rfl (grd_pick_t rfl rfl ?_ rfl) ?_
    · exact decide_eq_true (by assumption)
    refine GOps.nil ?_
    refine GWP.cond_t rfl ?_ ?_
    · with_reducible rfl
    refine GWP.seq ?_
    refine GWP.region ?_
    refine GOps.r rfl rfl rfl rfl (grd_assign rfl rfl) ?_
    refine GOps.nil ?_
    refine GWP.ret ?_
    refine ⟨_, .one rfl, ?_⟩
    refine ⟨?_, ?_⟩
    · rfl
    refine HExt.push ?_
    · exact HExt.refl _ _
    simp only [beq_true, beq_false, Bool.not_true, Bool.not_false, Bool.not_eq_true', Bool.not_eq_false', decide_eq_true_eq, decide_eq_false_iff_not] at cr7
    refine GOps.no rfl ?_ rfl rfl ?_
    · exact beq_eq_false_iff_ne.2 (by rw [decide_eq_true (by assumption)]; decide)
    refine GOps.no rfl ?_ rfl rfl ?_
    · exact beq_eq_false_iff_ne.2 (by rw [decide_eq_true (by assumption)]; decide)
    refine GOps.no rfl ?_ rfl rfl ?_
    · exact beq_eq_false_iff_ne.2 (by rw [decide_eq_true (by assumption)]; decide)
    refine GOps.no rfl ?_ rfl rfl ?_
    · exact beq_eq_false_iff_ne.2 (by rw [decide_eq_true (by assumption)]; decide)
    refine GOps.no rfl ?_ rfl rfl ?_
    · exact beq_eq_false_iff_ne.2 (by rw [decide_eq_true (by assumption)]; decide)
    refine GOps.r rfl rfl rfl rfl (grd_pick_t rfl rfl ?_ rfl) ?_
    · exact decide_eq_true (by assumption)
    refine GOps.nil ?_
    refine GWP.cond_t rfl ?_ ?_
    · with_reducible rfl
    refine GWP.seq ?_
    refine GWP.region ?_
    refine GOps.r rfl rfl rfl rfl (grd_assign rfl rfl) ?_
    refine GOps.nil ?_
    refine GWP.ret ?_
    refine ⟨_, .one rfl, ?_⟩
    refine ⟨?_, ?_⟩
    · rfl
    refine HExt.push ?_
    · exact HExt.refl _ _
    simp only [beq_true, beq_false, Bool.not_true, Bool.not_false, Bool.not_eq_true', Bool.not_eq_false', decide_eq_true_eq, decide_eq_false_iff_not] at cr5
    refine GOps.no rfl ?_ rfl rfl ?_
    · exact beq_eq_false_iff_ne.2 (by rw [decide_eq_true (by assumption)]; decide)
    refine GOps.no rfl ?_ rfl rfl ?_
    · exact beq_eq_false_iff_ne.2 (by rw [decide_eq_true (by assumption)]; decide)
    refine GOps.no rfl ?_ rfl rfl ?_
    · exact beq_eq_false_iff_ne.2 (by rw [decide_eq_true (by assumption)]; decide)
    refine GOps.no rfl ?_ rfl rfl ?_
    · exact beq_eq_false_iff_ne.2 (by rw [decide_eq_true (by assumption)]; decide)
    refine GOps.no rfl ?_ rfl rfl ?_
    · exact beq_eq_false_iff_ne.2 (by rw [decide_eq_true (by assumption)]; decide)
    refine GOps.r rfl rfl rfl rfl (grd_pick_t rfl rfl ?_ rfl) ?_
    · exact decide_eq_true (by assumption)
    refine GOps.nil ?_
    refine GWP.cond_t rfl ?_ ?_
    · with_reducible rfl
    refine GWP.seq ?_
    refine GWP.region ?_
    refine GOps.r rfl rfl rfl rfl (grd_assign rfl rfl) ?_
    refine GOps.nil ?_
    refine GWP.ret ?_
    refine ⟨_, .one rfl, ?_⟩
    refine ⟨?_, ?_⟩
    · rfl
    refine HExt.push ?_
    · exact HExt.refl _ _
    simp only [beq_true, beq_false, Bool.not_true, Bool.not_false, Bool.not_eq_true', Bool.not_eq_false', decide_eq_true_eq, decide_eq_false_iff_not] at cr3
    refine GOps.no rfl ?_ rfl rfl ?_
    · exact beq_eq_false_iff_ne.2 (by rw [decide_eq_true (by assumption)]; decide)
    refine GOps.no rfl ?_ rfl rfl ?_
    · exact beq_eq_false_iff_ne.2 (by rw [decide_eq_true (by assumption)]; decide)
    refine GOps.no rfl ?_ rfl rfl ?_
    · exact beq_eq_false_iff_ne.2 (by rw [decide_eq_true (by assumption)]; decide)
    refine GOps.no rfl ?_ rfl rfl ?_
    · exact beq_eq_false_iff_ne.2 (by rw [decide_eq_true (by assumption)]; decide)
    refine GOps.no rfl ?_ rfl rfl ?_
    · exact beq_eq_false_iff_ne.2 (by rw [decide_eq_true (by assumption)]; decide)
    refine GOps.r rfl rfl rfl rfl (grd_pick_t rfl rfl ?_ rfl) ?_
    · exact decide_eq_true (by assumption)
    refine GOps.nil ?_
    refine GWP.cond_t rfl ?_ ?_
    · with_reducible rfl
    refine GWP.seq ?_
    refine GWP.region ?_
    refine GOps.r rfl rfl rfl rfl (grd_assign rfl rfl) ?_
    refine GOps.nil ?_
    refine GWP.ret ?_
    refine ⟨_, .one rfl, ?_⟩
    refine ⟨?_, ?_⟩
    · rfl
    refine HExt.push ?_
    · exact HExt.refl _ _
    simp only [beq_true, beq_false, Bool.not_true, Bool.not_false, Bool.not_eq_true', Bool.not_eq_false', decide_eq_true_eq, decide_eq_false_iff_not] at cr1
    refine GOps.no rfl ?_ rfl rfl ?_
    · exact beq_eq_false_iff_ne.2 (by rw [decide_eq_true (by assumption)]; decide)
    refine GOps.no rfl ?_ rfl rfl ?_
    · exact beq_eq_false_iff_ne.2 (by rw [decide_eq_true (by assumption)]; decide)
    refine GOps.no rfl ?_ rfl rfl ?_
    · exact beq_eq_false_iff_ne.2 (by rw [decide_eq_true (by assumption)]; decide)
    refine GOps.no rfl ?_ rfl rfl ?_
    · exact beq_eq_false_iff_ne.2 (by rw [decide_eq_true (by assumption)]; decide)
    refine GOps.no rfl ?_ rfl rfl ?_
    · exact beq_eq_false_iff_ne.2 (by rw [decide_eq_true (by assumption)]; decide)
    refine GOps.r rfl rfl rfl rfl (grd_pick_t rfl rfl ?_ rfl) ?_
    · exact decide_eq_true (by assumption)
    refine GOps.nil ?_
    refine GWP.cond_t rfl ?_ ?_
    · with_reducible rfl
    refine GWP.seq ?_
    refine GWP.region ?_
    refine GOps.r rfl rfl rfl rfl (grd_assign rfl rfl) ?_
    refine GOps.nil ?_
    refine GWP.ret ?_
    refine ⟨_, .one rfl, ?_⟩
    refine ⟨?_, ?_⟩
    · rfl
    refine HExt.push ?_
    · exact HExt.refl _ _
set_option maxHeartbeats 4000000 in
set_option maxRecDepth 100000 in
set_option linter.unusedSimpArgs false in
/-- A block put on a new tape. -/
theorem g_sput (H : Hp) (g q : Nat) (h : H.at g = some (tpB q (.slice none 0 0) 0)) (hq : H.at q = some (pwB 0)) (x : Value) (X : List UInt8) (hX : X.length ≤ 196) (hB : GCalls Try.prog 49 [x] [] H (fun v H' => (∃ p' c', v = .tuple #[.slice p' (X.length + 4) c', .int .i64 0] ∧ BS H' (.slice p' (X.length + 4) c') (sealL X)) ∧ HExt [] H H')) :
    GCalls Try.prog 107 [.pointer (some ⟨g, 0, none⟩), x] [g, q] H fun v H' => v = .int .i64 0 ∧ t1P g q 1 (sealL X) H' ∧ HExt [g, q] H H' := by
  have hi := Hp.at_lt h
  have hqi := Hp.at_lt hq
  have hP := fun H h hq p n c hb hn => g_Put0 H g q 0 h hq (by omega) p n c (sealL X) hb hn
  refine GCalls.body tab_is Try.func107 rfl Try.results107 Try.ntmps107 (by simp) ?_ ?_
  · first | (intro _ h; cases h; done) | (simp; done) | (simp; omega) | (intro i hi; simp at hi; rcases hi with rfl | rfl <;> omega) | (intro i hi; simp at hi; rcases hi with rfl | rfl | rfl <;> omega)
  focus
    refine GWP.seq ?_
    refine GWP.region ?_
    refine GOps.r rfl rfl rfl rfl (grd_assign rfl rfl) ?_
    refine GOps.nil ?_
    refine GWP.seq ?_
    refine GWP.region ?_
    refine GOps.r rfl rfl rfl rfl (grd_move rfl rfl) ?_
    refine GOps.w rfl rfl rfl rfl (gop_call rfl Try.call49 rfl ?_ (hB)) ?_
    · intro _ h; cases h; done
    rintro _ Hxd4 ⟨⟨pd1, cd2, rfl, bd3⟩, xd4⟩
    have xd4l := HExt.len xd4; try simp at xd4l
    refine GOps.r rfl rfl rfl rfl (grd_move rfl rfl) ?_
    focus
      refine GOps.r rfl rfl rfl rfl (grd_extract (v := ?_) rfl rfl ?_) ?_
      rotate_left 1
      · simp only [List.getElem?_toArray, List.getElem?_cons_zero, List.getElem?_cons_succ]; rfl
    focus
      refine GOps.r rfl rfl rfl rfl (grd_extract (v := ?_) rfl rfl ?_) ?_
      rotate_left 1
      · simp only [List.getElem?_toArray, List.getElem?_cons_zero, List.getElem?_cons_succ]; rfl
    refine GOps.r rfl rfl rfl rfl (grd_assign rfl rfl) ?_
    refine GOps.r rfl rfl rfl rfl (grd_assign rfl rfl) ?_
    refine GOps.nil ?_
    refine GWP.seq ?_
    refine GWP.seq ?_
    refine GWP.region ?_
    refine GOps.r rfl rfl rfl rfl (grd_move rfl rfl) ?_
    refine GOps.r rfl rfl rfl rfl (grd_neq rfl rfl rfl) ?_
    refine GOps.nil ?_
    refine GWP.cond_f rfl ?_ ?_
    · exact decide_eq_false (by omega)
    refine GWP.skip ?_
    refine GWP.seq ?_
    refine GWP.region ?_
    refine GOps.r rfl rfl rfl rfl (grd_move rfl rfl) ?_
    refine GOps.r rfl rfl rfl rfl (grd_move rfl rfl) ?_
    refine GOps.w rfl rfl rfl rfl (gop_call rfl Try.call83 rfl ?_ (hP _ ?_ ?_ _ _ _ ?_ ?_)) ?_
    · simp [Ctx.may]; done
    refine (HExt.eq (by assumption) _ ?_ ?_).trans ?_
    · omega
    · intro h; cases h; done
    · assumption
    refine (HExt.eq (by assumption) _ ?_ ?_).trans ?_
    · omega
    · intro h; cases h; done
    · assumption
    · assumption
    · omega
    rintro _ Hxd6 ⟨rfl, td5, xd6⟩
    have xd6l := HExt.len xd6; try simp at xd6l
    refine GOps.r rfl rfl rfl rfl (grd_assign rfl rfl) ?_
    refine GOps.nil ?_
    refine GWP.ret ?_
    refine ⟨_, .one rfl, ?_⟩
    refine ⟨?_, ?_⟩
    · rfl
    refine ⟨?_, ?_⟩
    · assumption
    refine HExt.tr ?_ (by assumption) ?_
    refine HExt.tr ?_ (by assumption) ?_
    · exact HExt.refl _ _
    · intro _ h; cases h; done
    · simp; done
set_option maxHeartbeats 4000000 in
set_option maxRecDepth 100000 in
set_option linter.unusedSimpArgs false in
theorem g_sput0 (H : Hp) (g : Nat) (x : Value) (hB : GCalls Try.prog 49 [x] [] H (fun v H' => v = .tuple #[.slice none 0 0, .int .i64 1] ∧ HExt [] H H')) : GCalls Try.prog 107 [.pointer (some ⟨g, 0, none⟩), x] [] H fun v H' => v = .int .i64 1 ∧ HExt [] H H' := by
  refine GCalls.body tab_is Try.func107 rfl Try.results107 Try.ntmps107 (by simp) ?_ ?_
  · first | (intro _ h; cases h; done) | (simp; done) | (simp; omega) | (intro i hi; simp at hi; rcases hi with rfl | rfl <;> omega) | (intro i hi; simp at hi; rcases hi with rfl | rfl | rfl <;> omega)
  focus
    refine GWP.seq ?_
    refine GWP.region ?_
    refine GOps.r rfl rfl rfl rfl (grd_assign rfl rfl) ?_
    refine GOps.nil ?_
    refine GWP.seq ?_
    refine GWP.region ?_
    refine GOps.r rfl rfl rfl rfl (grd_move rfl rfl) ?_
    refine GOps.w rfl rfl rfl rfl (gop_call rfl Try.call49 rfl ?_ (hB)) ?_
    · intro _ h; cases h; done
    rintro _ Hxe1 ⟨rfl, xe1⟩
    have xe1l := HExt.len xe1; try simp at xe1l
    refine GOps.r rfl rfl rfl rfl (grd_move rfl rfl) ?_
    focus
      refine GOps.r rfl rfl rfl rfl (grd_extract (v := ?_) rfl rfl ?_) ?_
      rotate_left 1
      · simp only [List.getElem?_toArray, List.getElem?_cons_zero, List.getElem?_cons_succ]; rfl
    focus
      refine GOps.r rfl rfl rfl rfl (grd_extract (v := ?_) rfl rfl ?_) ?_
      rotate_left 1
      · simp only [List.getElem?_toArray, List.getElem?_cons_zero, List.getElem?_cons_succ]; rfl
    refine GOps.r rfl rfl rfl rfl (grd_assign rfl rfl) ?_
    refine GOps.r rfl rfl rfl rfl (grd_assign rfl rfl) ?_
    refine GOps.nil ?_
    refine GWP.seq ?_
    refine GWP.seq ?_
    refine GWP.region ?_
    refine GOps.r rfl rfl rfl rfl (grd_move rfl rfl) ?_
    refine GOps.r rfl rfl rfl rfl (grd_neq rfl rfl rfl) ?_
    refine GOps.nil ?_
    refine GWP.cond_t rfl ?_ ?_
    · exact decide_eq_true (by omega)
    refine GWP.seq ?_
    refine GWP.region ?_
    refine GOps.r rfl rfl rfl rfl (grd_move rfl rfl) ?_
    refine GOps.r rfl rfl rfl rfl (grd_assign rfl rfl) ?_
    refine GOps.nil ?_
    refine GWP.ret ?_
    refine ⟨_, .one rfl, ?_⟩
    refine ⟨?_, ?_⟩
    · rfl
    · assumption
set_option maxHeartbeats 4000000 in
set_option maxRecDepth 100000 in
set_option linter.unusedSimpArgs false in
theorem g_sget1 (H : Hp) (g q : Nat) (L : List UInt8) (hL : L.length ≤ 200) (j cj : Nat) (p : Option Addr) (c : Nat) (cp : Int) (h : T1 H g q 0 L j cj p c cp) : GCalls Try.prog 110 [.pointer (some ⟨g, 0, none⟩)] [g] H fun v H' => SegV H' v (segO L) ∧ T1 H' g q 1 L j cj p c cp ∧ HExt [g] H H' := by
  have hgl := Hp.at_lt h.hg
  have hS := fun H p n c hb hn => (g_sread H p n c L hb hn).mono fun v H' h => (⟨h.1, h.2⟩ : SegV H' v (segO L) ∧ HExt [] H H')
  have hG := fun (H : Hp) h => g_Get1 H g q L hL j cj p c cp h
  have key : ∀ (H1 : Hp) (v : Value), SegV H1 v (segO L) → ∃ z e, v = .tuple #[z, .int .i64 e] := fun H1 v h => by
    unfold SegV at h
    split at h
    · exact ⟨_, _, h⟩
    · exact ⟨_, _, h⟩
    · exact ⟨_, _, h⟩
    · obtain ⟨p, n, c, h, _⟩ := h
      exact ⟨_, _, h⟩
  have hS2 := fun H p n c hb hn => (hS H p n c hb hn).mono fun v H' h => (let ⟨z, e, he⟩ := key H' v h.1; ⟨⟨z, e, he, he ▸ h.1⟩, h.2⟩ : (∃ z e, v = .tuple #[z, .int .i64 e] ∧ SegV H' (.tuple #[z, .int .i64 e]) (segO L)) ∧ HExt [] H H')
  clear hS
  refine GCalls.body tab_is Try.func110 rfl Try.results110 Try.ntmps110 (by simp) ?_ ?_
  · first | (intro _ h; cases h; done) | (simp; done) | (simp; omega) | (intro i hi; simp at hi; rcases hi with rfl | rfl <;> omega) | (intro i hi; simp at hi; rcases hi with rfl | rfl | rfl <;> omega)
  focus
    refine GWP.seq ?_
    refine GWP.region ?_
    refine GOps.r rfl rfl rfl rfl (grd_assign rfl rfl) ?_
    refine GOps.r rfl rfl rfl rfl (grd_assign rfl rfl) ?_
    refine GOps.nil ?_
    refine GWP.seq ?_
    refine GWP.region ?_
    refine GOps.r rfl rfl rfl rfl (grd_move rfl rfl) ?_
    refine GOps.w rfl rfl rfl rfl (gop_call rfl Try.call85 rfl ?_ (hG _ ?_)) ?_
    · simp [Ctx.may]; done
    · assumption
    rintro _ Hxf6 ⟨⟨pf1, nf2, cf3, rfl, bf4⟩, tf5, xf6⟩
    have xf6l := HExt.len xf6; try simp at xf6l
    have bf4n := BS.len bf4; try simp at bf4n; try subst bf4n
    refine GOps.r rfl rfl rfl rfl (grd_move rfl rfl) ?_
    focus
      refine GOps.r rfl rfl rfl rfl (grd_extract (v := ?_) rfl rfl ?_) ?_
      rotate_left 1
      · simp only [List.getElem?_toArray, List.getElem?_cons_zero, List.getElem?_cons_succ]; rfl
    focus
      refine GOps.r rfl rfl rfl rfl (grd_extract (v := ?_) rfl rfl ?_) ?_
      rotate_left 1
      · simp only [List.getElem?_toArray, List.getElem?_cons_zero, List.getElem?_cons_succ]; rfl
    refine GOps.r rfl rfl rfl rfl (grd_assign rfl rfl) ?_
    refine GOps.r rfl rfl rfl rfl (grd_assign rfl rfl) ?_
    refine GOps.nil ?_
    refine GWP.seq ?_
    refine GWP.seq ?_
    refine GWP.region ?_
    refine GOps.r rfl rfl rfl rfl (grd_move rfl rfl) ?_
    refine GOps.r rfl rfl rfl rfl (grd_neq rfl rfl rfl) ?_
    refine GOps.nil ?_
    refine GWP.cond_f rfl ?_ ?_
    · exact decide_eq_false (by omega)
    refine GWP.skip ?_
    refine GWP.seq ?_
    refine GWP.region ?_
    refine GOps.r rfl rfl rfl rfl (grd_move rfl rfl) ?_
    refine GOps.w rfl rfl rfl rfl (gop_call rfl Try.call109 rfl ?_ (hS2 _ _ _ _ ?_ ?_)) ?_
    · intro _ h; cases h; done
    · assumption
    · omega
    rintro _ Hxf10 ⟨⟨zf7, ef8, rfl, sf9⟩, xf10⟩
    have xf10l := HExt.len xf10; try simp at xf10l
    focus
      refine GOps.r rfl rfl rfl rfl (grd_extract (v := ?_) rfl rfl ?_) ?_
      rotate_left 1
      · simp only [List.getElem?_toArray, List.getElem?_cons_zero, List.getElem?_cons_succ]; rfl
    focus
      refine GOps.r rfl rfl rfl rfl (grd_extract (v := ?_) rfl rfl ?_) ?_
      rotate_left 1
      · simp only [List.getElem?_toArray, List.getElem?_cons_zero, List.getElem?_cons_succ]; rfl
    refine GOps.r rfl rfl rfl rfl (grd_assign rfl rfl) ?_
    refine GOps.r rfl rfl rfl rfl (grd_assign rfl rfl) ?_
    refine GOps.nil ?_
    refine GWP.ret ?_
    refine ⟨_, .two (.one rfl) (.one rfl), ?_⟩
    refine ⟨?_, ?_⟩
    · assumption
    refine ⟨?_, ?_⟩
    · exact T1.ext (by assumption) (by assumption)
    refine HExt.tr ?_ (by assumption) ?_
    · assumption
    · intro _ h; cases h; done
set_option maxHeartbeats 4000000 in
set_option maxRecDepth 100000 in
set_option linter.unusedSimpArgs false in
theorem g_sget2 (H : Hp) (g q : Nat) (L : List UInt8) (j cj : Nat) (p : Option Addr) (c : Nat) (cp : Int) (h : T1 H g q 1 L j cj p c cp) : GCalls Try.prog 110 [.pointer (some ⟨g, 0, none⟩)] [] H fun v H' => v = .tuple #[.nilIface, .int .i64 6] ∧ H' = H := by
  refine GCalls.body tab_is Try.func110 rfl Try.results110 Try.ntmps110 (by simp) ?_ ?_
  · first | (intro _ h; cases h; done) | (simp; done) | (simp; omega) | (intro i hi; simp at hi; rcases hi with rfl | rfl <;> omega) | (intro i hi; simp at hi; rcases hi with rfl | rfl | rfl <;> omega)
  focus
    refine GWP.seq ?_
    refine GWP.region ?_
    refine GOps.r rfl rfl rfl rfl (grd_assign rfl rfl) ?_
    refine GOps.r rfl rfl rfl rfl (grd_assign rfl rfl) ?_
    refine GOps.nil ?_
    refine GWP.seq ?_
    refine GWP.region ?_
    refine GOps.r rfl rfl rfl rfl (grd_move rfl rfl) ?_
    refine GOps.w1 rfl rfl rfl rfl (gop_call rfl Try.call85 rfl ?_ (g_Get2 _ _ _ _ _ _ _ _ _ h)) ?_
    · intro _ h; cases h; done
    refine GOps.r rfl rfl rfl rfl (grd_move rfl rfl) ?_
    focus
      refine GOps.r rfl rfl rfl rfl (grd_extract (v := ?_) rfl rfl ?_) ?_
      rotate_left 1
      · simp only [List.getElem?_toArray, List.getElem?_cons_zero, List.getElem?_cons_succ]; rfl
    focus
      refine GOps.r rfl rfl rfl rfl (grd_extract (v := ?_) rfl rfl ?_) ?_
      rotate_left 1
      · simp only [List.getElem?_toArray, List.getElem?_cons_zero, List.getElem?_cons_succ]; rfl
    refine GOps.r rfl rfl rfl rfl (grd_assign rfl rfl) ?_
    refine GOps.r rfl rfl rfl rfl (grd_assign rfl rfl) ?_
    refine GOps.nil ?_
    refine GWP.seq ?_
    refine GWP.seq ?_
    refine GWP.region ?_
    refine GOps.r rfl rfl rfl rfl (grd_move rfl rfl) ?_
    refine GOps.r rfl rfl rfl rfl (grd_neq rfl rfl rfl) ?_
    refine GOps.nil ?_
    refine GWP.cond_t rfl ?_ ?_
    · exact decide_eq_true (by omega)
    refine GWP.seq ?_
    refine GWP.region ?_
    refine GOps.r rfl rfl rfl rfl (grd_move rfl rfl) ?_
    refine GOps.r rfl rfl rfl rfl (grd_assign rfl rfl) ?_
    refine GOps.r rfl rfl rfl rfl (grd_assign rfl rfl) ?_
    refine GOps.nil ?_
    refine GWP.ret ?_
    refine ⟨_, .two (.one rfl) (.one rfl), ?_⟩
    refine ⟨?_, ?_⟩
    · rfl
    · rfl
end Go.Proofs.Ytcbngjpihcemiaa

/- Texts out of slices whose place is not known, in regions that draw their order. Over any program. -/
namespace Go.Proofs.Ytcbngjpihcemiaa
open Go.RowKit

/-- The block of a slice. -/
def blkOf : Option Addr → List Nat
  | none => []
  | some a => [a.block]
section
variable {P : Program} {T : Tab} {o : Oper} {env : Env} {H : Hp} {x : Operand} {i : TyI}
theorem grd_strBP {p : Option Addr} {n c : Nat} {L : List UInt8} {src dst e z by_ : Nat} {zr : List Value} {i2 i3 : TyI} (hT : T.ok P) (ho : o.op = .convert src dst x) (ht : T src = some i) (hd : i.d = .slice e z by_ zr) (hte : T e = some i3) (hde : i3.d = .int .u8) (ht2 : T dst = some i2) (hd2 : i2.d = .str)
    (hx : geval env x = some (.slice p n c)) (hb : BS H (.slice p n c) L) : GRd P o env H (.string ⟨L.toArray⟩) (blkOf p) := by
  cases hb with
  | none => exact grd_str0 hT ho ht hd hte hde ht2 hd2 hx
  | some hb hs hl h1 _ => exact grd_str hT ho ht hd hte hde ht2 hd2 hx hb hs hl
end
section
variable {P : Program} {T : Tab} {o : Oper} {env : Env} {H : Hp} {x y : Operand} {t : TypeId} {i : TyI} {L : List UInt8}
theorem grd_lenSL {ts : Array TypeId} (hT : T.ok P) (ho : o.op = .call { callee := .builtin .len, args := #[x], argTypes := ts }) (hts : ts[0]? = some t) (ht : T t = some i) (hd : i.d = .str) (hx : geval env x = some (.string ⟨L.toArray⟩)) : GRd P o env H (.int .i64 (L.length : Int)) [] := by
  have h := grd_lenS (P := P) (H := H) hT ho hts ht hd hx
  simpa [ByteArray.size] using h
theorem grd_indexSL {k : IntKind} {m : Int} {q : Nat} {c : UInt8} (hT : T.ok P) (ho : o.op = .index t x y) (ht : T t = some i) (hd : i.d = .str) (hx : geval env x = some (.string ⟨L.toArray⟩)) (hy : geval env y = some (.int k m)) (hm : m = (q : Int)) (hc : L[q]? = some c) : GRd P o env H (.int .u8 (c.toNat : Int)) [] := by
  subst hm
  refine grd_indexS hT ho ht hd hx hy (by omega) ?_
  rw [Int.toNat_natCast]
  obtain ⟨h1, h2⟩ := List.getElem?_eq_some_iff.1 hc
  have h3 : q < (ByteArray.mk L.toArray).size := by simpa [ByteArray.size] using h1
  simp [h3, ByteArray.getElem_eq_getElem_data, h2]
theorem grd_sliceSL {l h : Nat} {M : List UInt8} {lo hi : Option Operand} (hT : T.ok P) (ho : o.op = .slice t x lo hi none) (ht : T t = some i) (hd : i.d = .str) (hx : geval env x = some (.string ⟨L.toArray⟩))
    (hl : gbound env lo 0 l) (hh : gbound env hi L.length h) (h1 : l ≤ h) (h2 : h ≤ L.length) (hM : (L.drop l).take (h - l) = M) : GRd P o env H (.string ⟨M.toArray⟩) [] := by
  subst hM
  have hs : (ByteArray.mk L.toArray).size = L.length := by simp [ByteArray.size]
  have := grd_sliceS (P := P) (H := H) hT ho ht hd hx hl (by rw [hs]; exact hh) h1 (by rw [hs]; exact h2)
  have e : (ByteArray.mk L.toArray).extract l h = ⟨((L.drop l).take (h - l)).toArray⟩ := by
    apply ByteArray.ext
    rw [ByteArray.data_extract]
    apply Array.ext'
    simp [List.extract_eq_take_drop]
  rw [e] at this
  exact this
end
section
variable {H : Hp} {p : Option Addr} {n c : Nat} {L : List UInt8} {l F : List Nat}
theorem prt_app (h : BS H (.slice p n c) L) (hF : ∀ g ∈ F, ∃ b, H.at g = some b ∧ allU8 b.cs = false) (h2 : ∀ j ∈ l, (∃ c, H.at j = some c) ∧ j ∉ F) : ∀ j ∈ blkOf p ++ l, (∃ c, H.at j = some c) ∧ j ∉ F := fun j hj => by
  rcases List.mem_append.1 hj with hj | hj
  · cases h with
    | none => cases hj
    | some hb _ _ _ hu =>
      obtain rfl := List.mem_singleton.1 hj
      refine ⟨⟨_, hb⟩, fun hm => ?_⟩
      obtain ⟨b, h1, h2⟩ := hF _ hm
      rw [hb] at h1
      injection h1 with h1
      subst h1
      simp only at h2
      rw [hu] at h2
      cases h2
  · exact h2 j hj
theorem prt_len (h : BS H (.slice p n c) L) (h2 : ∀ j ∈ l, j < H.length) : ∀ j ∈ blkOf p ++ l, j < H.length := fun j hj => by
  rcases List.mem_append.1 hj with hj | hj
  · cases h with
    | none => cases hj
    | some hb _ _ _ hu =>
      obtain rfl := List.mem_singleton.1 hj
      exact Hp.at_lt hb
  · exact h2 j hj
end
end Go.Proofs.Ytcbngjpihcemiaa

/- The functions that are run: each row is checked against the program. -/
namespace Go.Proofs.Ytcbngjpihcemiaa
noncomputable def fe7 : Nat × FE := (7, ⟨Option.getD Try.f7.body .skip, Try.f7.results.toList, 38, ofL [] .e⟩)
theorem fe7_ok : FEOk Try.prog fe7 := ⟨by decide, by decide, by kernel_rfl, Try.call7, Try.f7, Try.func7, rfl, rfl, rfl⟩
noncomputable def fe15 : Nat × FE := (15, ⟨Option.getD Try.f15.body .skip, Try.f15.results.toList, 3, ofL [] .e⟩)
theorem fe15_ok : FEOk Try.prog fe15 := ⟨by decide, by decide, by kernel_rfl, Try.call15, Try.f15, Try.func15, rfl, rfl, rfl⟩
noncomputable def fe27 : Nat × FE := (27, ⟨Option.getD Try.f27.body .skip, Try.f27.results.toList, 42, ofL [(3, [.rd 0, .rd 1, .rd 3, .rd 4, .wr 2 [] [4], .rd 6, .wr 5 [] [], .wr 7 [] [], .rd 8, .wr 9 [] []])] .e⟩)
theorem fe27_ok : FEOk Try.prog fe27 := ⟨by decide, by decide, by kernel_rfl, Try.call27, Try.f27, Try.func27, rfl, rfl, rfl⟩
noncomputable def fe30 : Nat × FE := (30, ⟨Option.getD Try.f30.body .skip, Try.f30.results.toList, 10, ofL [] .e⟩)
theorem fe30_ok : FEOk Try.prog fe30 := ⟨by decide, by decide, by kernel_rfl, Try.call30, Try.f30, Try.func30, rfl, rfl, rfl⟩
noncomputable def fe33 : Nat × FE := (33, ⟨Option.getD Try.f33.body .skip, Try.f33.results.toList, 12, ofL [] .e⟩)
theorem fe33_ok : FEOk Try.prog fe33 := ⟨by decide, by decide, by kernel_rfl, Try.call33, Try.f33, Try.func33, rfl, rfl, rfl⟩
noncomputable def fe48 : Nat × FE := (48, ⟨Option.getD Try.f48.body .skip, Try.f48.results.toList, 24, ofL [] .e⟩)
theorem fe48_ok : FEOk Try.prog fe48 := ⟨by decide, by decide, by kernel_rfl, Try.call48, Try.f48, Try.func48, rfl, rfl, rfl⟩
noncomputable def fe49 : Nat × FE := (49, ⟨Option.getD Try.f49.body .skip, Try.f49.results.toList, 52, ofL [] .e⟩)
theorem fe49_ok : FEOk Try.prog fe49 := ⟨by decide, by decide, by kernel_rfl, Try.call49, Try.f49, Try.func49, rfl, rfl, rfl⟩
noncomputable def fe50 : Nat × FE := (50, ⟨Option.getD Try.f50.body .skip, Try.f50.results.toList, 105, ofL [(11, [.rd 0, .rd 1, .rd 2, .rd 3, .rd 4, .rd 5, .wr 6 [] [4], .rd 7, .rd 8, .rd 9, .rd 10, .rd 11, .rd 12, .rd 13, .rd 14, .rd 15, .rd 16, .rd 17, .rd 18, .rd 19, .rd 21, .wr 20 [] [21], .rd 22, .rd 23, .rd 24, .rd 25, .rd 26, .rd 27, .rd 28, .rd 29, .rd 31, .wr 30 [] [31], .rd 32, .rd 33, .rd 34, .rd 35, .rd 36, .rd 37, .wr 38 [] []])] .e⟩)
theorem fe50_ok : FEOk Try.prog fe50 := ⟨by decide, by decide, by kernel_rfl, Try.call50, Try.f50, Try.func50, rfl, rfl, rfl⟩
noncomputable def fe63 : Nat × FE := (63, ⟨Option.getD Try.f63.body .skip, Try.f63.results.toList, 7, ofL [] .e⟩)
theorem fe63_ok : FEOk Try.prog fe63 := ⟨by decide, by decide, by kernel_rfl, Try.call63, Try.f63, Try.func63, rfl, rfl, rfl⟩
noncomputable def fe67 : Nat × FE := (67, ⟨Option.getD Try.f67.body .skip, Try.f67.results.toList, 15, ofL [] .e⟩)
theorem fe67_ok : FEOk Try.prog fe67 := ⟨by decide, by decide, by kernel_rfl, Try.call67, Try.f67, Try.func67, rfl, rfl, rfl⟩
noncomputable def fe83 : Nat × FE := (83, ⟨Option.getD Try.f83.body .skip, Try.f83.results.toList, 22, ofL [] .e⟩)
theorem fe83_ok : FEOk Try.prog fe83 := ⟨by decide, by decide, by kernel_rfl, Try.call83, Try.f83, Try.func83, rfl, rfl, rfl⟩
noncomputable def fe84 : Nat × FE := (84, ⟨Option.getD Try.f84.body .skip, Try.f84.results.toList, 29, ofL [] .e⟩)
theorem fe84_ok : FEOk Try.prog fe84 := ⟨by decide, by decide, by kernel_rfl, Try.call84, Try.f84, Try.func84, rfl, rfl, rfl⟩
noncomputable def fe85 : Nat × FE := (85, ⟨Option.getD Try.f85.body .skip, Try.f85.results.toList, 59, ofL [(5, [.rd 0, .rd 1, .rd 2, .rd 3, .rd 4, .rd 5, .rd 6, .rd 7, .rd 8, .rd 9, .wr 10 [] []]), (7, [.rd 0, .rd 1, .rd 2, .rd 3, .rd 4, .rd 5, .rd 6, .rd 7, .rd 8, .wr 9 [] [], .wr 10 [] []]), (9, [.rd 0, .rd 1, .rd 2, .rd 3, .rd 4, .rd 5, .rd 6, .rd 7, .rd 8, .rd 9, .wr 10 [] [9, 7, 3], .wr 11 [] []])] .e⟩)
theorem fe85_ok : FEOk Try.prog fe85 := ⟨by decide, by decide, by kernel_rfl, Try.call85, Try.f85, Try.func85, rfl, rfl, rfl⟩
noncomputable def fe86 : Nat × FE := (86, ⟨Option.getD Try.f86.body .skip, Try.f86.results.toList, 8, ofL [] .e⟩)
theorem fe86_ok : FEOk Try.prog fe86 := ⟨by decide, by decide, by kernel_rfl, Try.call86, Try.f86, Try.func86, rfl, rfl, rfl⟩
noncomputable def fe94 : Nat × FE := (94, ⟨Option.getD Try.f94.body .skip, Try.f94.results.toList, 27, ofL [] .e⟩)
theorem fe94_ok : FEOk Try.prog fe94 := ⟨by decide, by decide, by kernel_rfl, Try.call94, Try.f94, Try.func94, rfl, rfl, rfl⟩
noncomputable def fe95 : Nat × FE := (95, ⟨Option.getD Try.f95.body .skip, Try.f95.results.toList, 114, ofL [(3, [.rd 0, .rd 1, .rd 2, .rd 3, .rd 4, .rd 7, .rd 8, .rd 9, .rd 11, .rd 12, .rd 13, .rd 14, .rd 15, .wr 5 [] [15, 8], .rd 6, .rd 10, .rd 16, .wr 17 [] []]), (5, [.rd 0, .rd 1, .rd 2, .rd 3, .rd 4, .rd 5, .rd 6, .rd 7, .wr 8 [] [], .rd 9, .rd 10, .rd 11, .wr 12 [] [], .wr 13 [] []]), (6, [.rd 0, .rd 1, .rd 2, .rd 3, .rd 4, .rd 5, .rd 6, .rd 7, .rd 8, .rd 9, .rd 10, .rd 11, .rd 12, .rd 13, .rd 14, .rd 15, .wr 16 [] []]), (7, [.rd 0, .rd 1, .rd 2, .rd 3, .rd 4, .rd 5, .rd 6, .rd 7, .rd 8, .rd 9, .rd 10, .rd 11, .wr 12 [] [], .rd 13, .wr 14 [] []]), (10, [.rd 0, .rd 1, .rd 2, .rd 3, .rd 4, .rd 5, .wr 6 [] [4], .wr 7 [] [], .rd 8, .rd 9, .wr 10 [] []]), (13, [.rd 0, .rd 1, .rd 2, .rd 3, .rd 4, .rd 5, .rd 6, .rd 7, .rd 8, .rd 9, .rd 10, .wr 11 [] [4], .wr 12 [] [], .rd 13, .rd 14, .wr 15 [] []])] .e⟩)
theorem fe95_ok : FEOk Try.prog fe95 := ⟨by decide, by decide, by kernel_rfl, Try.call95, Try.f95, Try.func95, rfl, rfl, rfl⟩
noncomputable def fe100 : Nat × FE := (100, ⟨Option.getD Try.f100.body .skip, Try.f100.results.toList, 47, ofL [] .e⟩)
theorem fe100_ok : FEOk Try.prog fe100 := ⟨by decide, by decide, by kernel_rfl, Try.call100, Try.f100, Try.func100, rfl, rfl, rfl⟩
noncomputable def fe102 : Nat × FE := (102, ⟨Option.getD Try.f102.body .skip, Try.f102.results.toList, 17, ofL [] .e⟩)
theorem fe102_ok : FEOk Try.prog fe102 := ⟨by decide, by decide, by kernel_rfl, Try.call102, Try.f102, Try.func102, rfl, rfl, rfl⟩
noncomputable def fe103 : Nat × FE := (103, ⟨Option.getD Try.f103.body .skip, Try.f103.results.toList, 37, ofL [] .e⟩)
theorem fe103_ok : FEOk Try.prog fe103 := ⟨by decide, by decide, by kernel_rfl, Try.call103, Try.f103, Try.func103, rfl, rfl, rfl⟩
noncomputable def fe104 : Nat × FE := (104, ⟨Option.getD Try.f104.body .skip, Try.f104.results.toList, 20, ofL [] .e⟩)
theorem fe104_ok : FEOk Try.prog fe104 := ⟨by decide, by decide, by kernel_rfl, Try.call104, Try.f104, Try.func104, rfl, rfl, rfl⟩
noncomputable def fe105 : Nat × FE := (105, ⟨Option.getD Try.f105.body .skip, Try.f105.results.toList, 32, ofL [] .e⟩)
theorem fe105_ok : FEOk Try.prog fe105 := ⟨by decide, by decide, by kernel_rfl, Try.call105, Try.f105, Try.func105, rfl, rfl, rfl⟩
noncomputable def fe106 : Nat × FE := (106, ⟨Option.getD Try.f106.body .skip, Try.f106.results.toList, 46, ofL [] .e⟩)
theorem fe106_ok : FEOk Try.prog fe106 := ⟨by decide, by decide, by kernel_rfl, Try.call106, Try.f106, Try.func106, rfl, rfl, rfl⟩
noncomputable def fe107 : Nat × FE := (107, ⟨Option.getD Try.f107.body .skip, Try.f107.results.toList, 18, ofL [] .e⟩)
theorem fe107_ok : FEOk Try.prog fe107 := ⟨by decide, by decide, by kernel_rfl, Try.call107, Try.f107, Try.func107, rfl, rfl, rfl⟩
noncomputable def fe108 : Nat × FE := (108, ⟨Option.getD Try.f108.body .skip, Try.f108.results.toList, 46, ofL [] .e⟩)
theorem fe108_ok : FEOk Try.prog fe108 := ⟨by decide, by decide, by kernel_rfl, Try.call108, Try.f108, Try.func108, rfl, rfl, rfl⟩
noncomputable def fe109 : Nat × FE := (109, ⟨Option.getD Try.f109.body .skip, Try.f109.results.toList, 95, ofL [] .e⟩)
theorem fe109_ok : FEOk Try.prog fe109 := ⟨by decide, by decide, by kernel_rfl, Try.call109, Try.f109, Try.func109, rfl, rfl, rfl⟩
noncomputable def fe110 : Nat × FE := (110, ⟨Option.getD Try.f110.body .skip, Try.f110.results.toList, 18, ofL [] .e⟩)
theorem fe110_ok : FEOk Try.prog fe110 := ⟨by decide, by decide, by kernel_rfl, Try.call110, Try.f110, Try.func110, rfl, rfl, rfl⟩
noncomputable def fe111 : Nat × FE := (111, ⟨Option.getD Try.f111.body .skip, Try.f111.results.toList, 30, ofL [] .e⟩)
theorem fe111_ok : FEOk Try.prog fe111 := ⟨by decide, by decide, by kernel_rfl, Try.call111, Try.f111, Try.func111, rfl, rfl, rfl⟩
noncomputable def fe123 : Nat × FE := (123, ⟨Option.getD Try.f123.body .skip, Try.f123.results.toList, 42, ofL [] .e⟩)
theorem fe123_ok : FEOk Try.prog fe123 := ⟨by decide, by decide, by kernel_rfl, Try.call123, Try.f123, Try.func123, rfl, rfl, rfl⟩
noncomputable def fe124 : Nat × FE := (124, ⟨Option.getD Try.f124.body .skip, Try.f124.results.toList, 9, ofL [] .e⟩)
theorem fe124_ok : FEOk Try.prog fe124 := ⟨by decide, by decide, by kernel_rfl, Try.call124, Try.f124, Try.func124, rfl, rfl, rfl⟩
noncomputable def fe125 : Nat × FE := (125, ⟨Option.getD Try.f125.body .skip, Try.f125.results.toList, 8, ofL [] .e⟩)
theorem fe125_ok : FEOk Try.prog fe125 := ⟨by decide, by decide, by kernel_rfl, Try.call125, Try.f125, Try.func125, rfl, rfl, rfl⟩
noncomputable def fe128 : Nat × FE := (128, ⟨Option.getD Try.f128.body .skip, Try.f128.results.toList, 26, ofL [(6, [.rd 0, .rd 1, .rd 2, .rd 3, .rd 4, .rd 5, .rd 6, .rd 7, .rd 8])] .e⟩)
theorem fe128_ok : FEOk Try.prog fe128 := ⟨by decide, by decide, by kernel_rfl, Try.call128, Try.f128, Try.func128, rfl, rfl, rfl⟩
noncomputable def fe135 : Nat × FE := (135, ⟨Option.getD Try.f135.body .skip, Try.f135.results.toList, 54, ofL [] .e⟩)
theorem fe135_ok : FEOk Try.prog fe135 := ⟨by decide, by decide, by kernel_rfl, Try.call135, Try.f135, Try.func135, rfl, rfl, rfl⟩
noncomputable def fe136 : Nat × FE := (136, ⟨Option.getD Try.f136.body .skip, Try.f136.results.toList, 9, ofL [] .e⟩)
theorem fe136_ok : FEOk Try.prog fe136 := ⟨by decide, by decide, by kernel_rfl, Try.call136, Try.f136, Try.func136, rfl, rfl, rfl⟩
noncomputable def fe142 : Nat × FE := (142, ⟨Option.getD Try.f142.body .skip, Try.f142.results.toList, 26, ofL [] .e⟩)
theorem fe142_ok : FEOk Try.prog fe142 := ⟨by decide, by decide, by kernel_rfl, Try.call142, Try.f142, Try.func142, rfl, rfl, rfl⟩
noncomputable def fe144 : Nat × FE := (144, ⟨Option.getD Try.f144.body .skip, Try.f144.results.toList, 9, ofL [] .e⟩)
theorem fe144_ok : FEOk Try.prog fe144 := ⟨by decide, by decide, by kernel_rfl, Try.call144, Try.f144, Try.func144, rfl, rfl, rfl⟩
noncomputable def fe145 : Nat × FE := (145, ⟨Option.getD Try.f145.body .skip, Try.f145.results.toList, 20, ofL [] .e⟩)
theorem fe145_ok : FEOk Try.prog fe145 := ⟨by decide, by decide, by kernel_rfl, Try.call145, Try.f145, Try.func145, rfl, rfl, rfl⟩
noncomputable def fe146 : Nat × FE := (146, ⟨Option.getD Try.f146.body .skip, Try.f146.results.toList, 24, ofL [] .e⟩)
theorem fe146_ok : FEOk Try.prog fe146 := ⟨by decide, by decide, by kernel_rfl, Try.call146, Try.f146, Try.func146, rfl, rfl, rfl⟩
noncomputable def fe152 : Nat × FE := (152, ⟨Option.getD Try.f152.body .skip, Try.f152.results.toList, 43, ofL [] .e⟩)
theorem fe152_ok : FEOk Try.prog fe152 := ⟨by decide, by decide, by kernel_rfl, Try.call152, Try.f152, Try.func152, rfl, rfl, rfl⟩
noncomputable def fe153 : Nat × FE := (153, ⟨Option.getD Try.f153.body .skip, Try.f153.results.toList, 13, ofL [] .e⟩)
theorem fe153_ok : FEOk Try.prog fe153 := ⟨by decide, by decide, by kernel_rfl, Try.call153, Try.f153, Try.func153, rfl, rfl, rfl⟩
noncomputable def fe158 : Nat × FE := (158, ⟨Option.getD Try.f158.body .skip, Try.f158.results.toList, 19, ofL [] .e⟩)
theorem fe158_ok : FEOk Try.prog fe158 := ⟨by decide, by decide, by kernel_rfl, Try.call158, Try.f158, Try.func158, rfl, rfl, rfl⟩
noncomputable def fe192 : Nat × FE := (192, ⟨Option.getD Try.f192.body .skip, Try.f192.results.toList, 16, ofL [(1, [.rd 0, .rd 1, .rd 2, .rd 3, .rd 4, .rd 5, .rd 6, .rd 7, .rd 8, .rd 9, .rd 10, .wr 11 [] [9, 7, 5, 3, 1], .wr 12 [] [], .wr 13 [] []])] .e⟩)
theorem fe192_ok : FEOk Try.prog fe192 := ⟨by decide, by decide, by kernel_rfl, Try.call192, Try.f192, Try.func192, rfl, rfl, rfl⟩
noncomputable def fe193 : Nat × FE := (193, ⟨Option.getD Try.f193.body .skip, Try.f193.results.toList, 18, ofL [(4, [.rd 0, .rd 1, .rd 2, .rd 3, .rd 4, .rd 5, .rd 6, .rd 7, .rd 8, .rd 9, .wr 10 [] [7, 5, 3, 1], .wr 11 [] [], .wr 12 [] []])] .e⟩)
theorem fe193_ok : FEOk Try.prog fe193 := ⟨by decide, by decide, by kernel_rfl, Try.call193, Try.f193, Try.func193, rfl, rfl, rfl⟩
noncomputable def fe194 : Nat × FE := (194, ⟨Option.getD Try.f194.body .skip, Try.f194.results.toList, 7, ofL [] .e⟩)
theorem fe194_ok : FEOk Try.prog fe194 := ⟨by decide, by decide, by kernel_rfl, Try.call194, Try.f194, Try.func194, rfl, rfl, rfl⟩
noncomputable def ftL : List (Nat × FE) := [fe7, fe15, fe27, fe30, fe33, fe48, fe49, fe50, fe63, fe67, fe83, fe84, fe85, fe86, fe94, fe95, fe100, fe102, fe103, fe104, fe105, fe106, fe107, fe108, fe109, fe110, fe111, fe123, fe124, fe125, fe128, fe135, fe136, fe142, fe144, fe145, fe146, fe152, fe153, fe158, fe192, fe193, fe194]
theorem ftL_ok : FLOk Try.prog ftL := (.cons fe7_ok (.cons fe15_ok (.cons fe27_ok (.cons fe30_ok (.cons fe33_ok (.cons fe48_ok (.cons fe49_ok (.cons fe50_ok (.cons fe63_ok (.cons fe67_ok (.cons fe83_ok (.cons fe84_ok (.cons fe85_ok (.cons fe86_ok (.cons fe94_ok (.cons fe95_ok (.cons fe100_ok (.cons fe102_ok (.cons fe103_ok (.cons fe104_ok (.cons fe105_ok (.cons fe106_ok (.cons fe107_ok (.cons fe108_ok (.cons fe109_ok (.cons fe110_ok (.cons fe111_ok (.cons fe123_ok (.cons fe124_ok (.cons fe125_ok (.cons fe128_ok (.cons fe135_ok (.cons fe136_ok (.cons fe142_ok (.cons fe144_ok (.cons fe145_ok (.cons fe146_ok (.cons fe152_ok (.cons fe153_ok (.cons fe158_ok (.cons fe192_ok (.cons fe193_ok (.cons fe194_ok  .nil)))))))))))))))))))))))))))))))))))))))))))
noncomputable def ft : Tr FE := ofL ftL .e
theorem ft_ok : FTOk Try.prog ft := ftL_ok.ok
end Go.Proofs.Ytcbngjpihcemiaa

/- Runs, and walks that end in one. -/
namespace Go.Proofs.Ytcbngjpihcemiaa
open Go.RowKit

theorem gop_call0 {P : Program} {C : Ctx} {o : Oper} {env : Env} {H : Hp} {f : FuncId} {ts : Array TypeId} {F : List Nat} {R : Value → Hp → Prop} (ho : o.op = .call { callee := .value (.func f), args := #[], argTypes := ts }) (hc : ∀ (args : Array Value) (w : World), (callFunc f args).run P w = .ok (.enter f args) w) (hm : ∀ i ∈ F, C.may i) (h : GCalls P f [] F H R) : GOp P C o env H R := gop_call (xs := []) ho hc rfl hm h
theorem one_sees {s0 : Nat} {v0 : Value} (h0 : s0 < trMax) {env : Env} (he : env.get s0 = some v0) : ∀ s v, (ofL [(s0, v0)] .e).get s = some v → env.get s = some v := fun s v h => by
  rcases ofL_get (fun p hp => by rw [List.mem_singleton] at hp; subst hp; exact h0) h with h1 | h1
  · rw [List.mem_singleton] at h1
    injection h1 with h1 h2
    subst h1 h2
    exact he
  · cases h1
theorem may0 (F : List Nat) {H : PH} : CL ⟨F, ([] : Hp).length⟩ H := ⟨Nat.zero_le _, fun i _ _ => .inr (Nat.zero_le i)⟩
/-- What a run left. -/
noncomputable def rX (x : Option (Exit × Tr Value × PH)) : Exit := match x with
  | some (e, _, _) => e
  | none => .normal
noncomputable def rE (x : Option (Exit × Tr Value × PH)) : Tr Value := match x with
  | some (_, E, _) => E
  | none => .e
noncomputable def rH (x : Option (Exit × Tr Value × PH)) : PH := match x with
  | some (_, _, H) => H
  | none => PH0
theorem some_r {x : Option (Exit × Tr Value × PH)} (h : x.isSome = true) : x = some (rX x, rE x, rH x) := by
  cases x with
  | none => cases h
  | some q => rfl
theorem run_mono_r {P : Program} {T : Tab} {FT : Tr FE} {S : CallF} (hT : T.ok P) (hm : P.follows .mixedOrders = true) (hF : FTOk P FT) (hS : CallOk P S) {n N : Nat} {dr : Tr (List PSeg)} {c : Code} {E : Tr Value} {H : PH} (h : (Go.Proofs.Ytcbngjpihcemiaa.run FT S T n N dr c E H).isSome = true) (hok : codeOk N dr c = true) (hN : Nat.ble N trMax = true) : Mono H (rH (Go.Proofs.Ytcbngjpihcemiaa.run FT S T n N dr c E H)) := (run_sound hT hm hF hS n N dr c E H _ _ _ (some_r h) hok (ble_le hN)).1
theorem GCalls.kill {P : Program} {f : FuncId} {args : List Value} {F : List Nat} {H : Hp} {R : Value → Hp → Prop} (i : Nat) (h : GCalls P f args F (H.kill i) R) : GCalls P f args F H R := fun μ w rargs hs hv => by
  have := h μ w rargs (hs.kill i) hv
  rw [Hp.len_kill] at this
  exact this
theorem GWP.heap {P : Program} {N : Nat} {C : Ctx} {c : Code} {Q : Exit → Env → Hp → Prop} {env : Env} {H : Hp} (G : Hp) (e : H = G) (h : GWP P N C c Q env G) : GWP P N C c Q env H := by
  rw [e]
  exact h
theorem GWP.runR {P : Program} {T : Tab} {FT : Tr FE} {S : CallF} (hT : T.ok P) (hm : P.follows .mixedOrders = true) (hF : FTOk P FT) (hS : CallOk P S) {n N : Nat} {dr : Tr (List PSeg)} {c : Code} {E : Tr Value} {H : PH} (e : Exit) {C : Ctx} {env : Env} {Q : Exit → Env → Hp → Prop} (hC : CL C H)
    (h : (Go.Proofs.Ytcbngjpihcemiaa.run FT S T n N dr c E H).isSome = true) (hX : rX (Go.Proofs.Ytcbngjpihcemiaa.run FT S T n N dr c E H) = e) (hok : codeOk N dr c = true) (hN : Nat.ble N trMax = true)
    (hs : ∀ s v, E.get s = some v → env.get s = some v) (k : ∀ env', (∀ s v, (rE (Go.Proofs.Ytcbngjpihcemiaa.run FT S T n N dr c E H)).get s = some v → env'.get s = some v) → Q e env' (rH (Go.Proofs.Ytcbngjpihcemiaa.run FT S T n N dr c E H)).abs) : GWP P N C c Q env H.abs := by
  subst hX
  exact GWP.run hT hm hF hS (some_r h) hok (ble_le hN) hC hs k
theorem list3 {α : Type} {l : List α} (h : l.length = 3) : ∃ a b c, l = [a, b, c] := by
  match l, h with
  | [a, b, c], _ => exact ⟨a, b, c, rfl⟩
theorem list2 {α : Type} {l : List α} (h : l.length = 2) : ∃ a b, l = [a, b] := by
  match l, h with
  | [a, b], _ => exact ⟨a, b, rfl⟩
theorem mix : Try.prog.follows .mixedOrders = true := by kernel_rfl
end Go.Proofs.Ytcbngjpihcemiaa

/- What came in, on the ghost side: rows of bytes that are only read. Over any program. -/
namespace Go.Proofs.Ytcbngjpihcemiaa
open Go.RowKit Go.ChangeShapes Go.WideShapes Go.ChangeAt

section
variable {P : Program} {w : World} {μ : Ren} {H : Hp}
theorem cell_block {b o : Nat} {u : Value} (h : w.cell? ⟨b, o, none⟩ = some u) : ∃ rs t fz, w.heap[b]? = some (Obj.cells rs t fz) ∧ rs[o]? = some u := by
  unfold World.cell? at h
  simp only at h
  split at h
  · rename_i rs t fz hb
    exact ⟨rs, t, fz, hb, h⟩
  · cases h
/-- A row of cells that is only read, at a place. -/
theorem SimH.ro (hs : SimH μ H w) (hro : ∀ i c, H.at i = some c → c.rw = false) (cs rcs : List Value) (t : TypeId) (z b off S : Nat) (hne : cs ≠ []) (hv : VRs μ cs rcs) (h1 : ∀ v ∈ cs, v.oneCell' = true) (hr : ∀ j u, rcs[j]? = some u → w.cell? ⟨b, off + j, none⟩ = some u) : SimH (μ.upd H.length ⟨b, off, S, z⟩) (H.push ⟨t, z, cs, false⟩) w ∧ b < w.heap.size := by
  have he := hs.fresh ⟨b, off, S, z⟩
  obtain ⟨c0, cs0, rfl⟩ : ∃ c l, cs = c :: l := by cases cs with
    | nil => exact absurd rfl hne
    | cons c l => exact ⟨c, l, rfl⟩
  obtain ⟨u0, hu0, _⟩ := hv.get 0 c0 rfl
  obtain ⟨rs, bt, fz, hb, _⟩ := cell_block (hr 0 u0 hu0)
  have hlt : b < w.heap.size := real_lt hb
  have key : ∀ j c, (H.push ⟨t, z, c0 :: cs0, false⟩).at j = some c → (j < H.length ∧ H.at j = some c) ∨ (j = H.length ∧ c = ⟨t, z, c0 :: cs0, false⟩) := fun j c hc => by
    have hlt := Hp.at_lt hc
    rw [Hp.len_push] at hlt
    rcases Nat.lt_or_ge j H.length with h | h
    · rw [Hp.at_push_lt h] at hc
      exact .inl ⟨h, hc⟩
    · obtain rfl : j = H.length := by omega
      rw [Hp.at_push_eq] at hc
      injection hc with hc
      exact .inr ⟨rfl, hc.symm⟩
  refine ⟨⟨fun j c hc => ?_, fun j M hM => ?_, fun j k c c' M M' hj hk hM hM' hgg hrw => ?_⟩, hlt⟩
  · rcases key j c hc with ⟨hj, hc⟩ | ⟨rfl, rfl⟩
    · obtain ⟨M, rs', t', fz', q1, q2, q3, q4, q5, q6, q7⟩ := hs.dom j c hc
      exact ⟨M, rs', t', fz', he j M q1, q2, q3, q4, q5, q6.mono he, q7⟩
    · refine ⟨⟨b, off, S, z⟩, rs, bt, fz, Ren.upd_eq _ _ _, rfl, hb, (fun h => by cases h), (fun h => by cases h), fun k v hk => ?_, h1⟩
      obtain ⟨v', e1, e2⟩ := hv.get k v hk
      obtain ⟨rs2, bt2, fz2, hb2, hg2⟩ := cell_block (hr k v' e1)
      rw [hb] at hb2
      injection hb2 with hb2
      injection hb2 with hb2
      subst hb2
      exact ⟨v', hg2, e2.mono he⟩
  · rw [Hp.len_push]
    by_cases e : j = H.length
    · subst e
      rw [Ren.upd_eq] at hM
      injection hM with hM
      subst hM
      exact ⟨by omega, hlt⟩
    · rw [Ren.upd_ne _ _ e] at hM
      obtain ⟨q1, q2⟩ := hs.len j M hM
      exact ⟨by omega, q2⟩
  · have no : ∀ j c, (H.push ⟨t, z, c0 :: cs0, false⟩).at j = some c → c.rw = false := fun j c hc => by
      rcases key j c hc with ⟨_, hc⟩ | ⟨_, rfl⟩
      · exact hro j c hc
      · rfl
    rcases hrw with h | h
    · rw [no j c hj] at h; cases h
    · rw [no k c' hk] at h; cases h
/-- A ghost heap in which nothing may be written. -/
def Ro (H : Hp) : Prop := ∀ i c, H.at i = some c → c.rw = false
theorem Ro.push (h : Ro H) (t z : Nat) (cs : List Value) : Ro (H.push ⟨t, z, cs, false⟩) := fun i c hc => by
  have hlt := Hp.at_lt hc
  rw [Hp.len_push] at hlt
  rcases Nat.lt_or_ge i H.length with q | q
  · rw [Hp.at_push_lt q] at hc
    exact h i c hc
  · obtain rfl : i = H.length := by omega
    rw [Hp.at_push_eq] at hc
    injection hc with hc
    rw [← hc]
theorem Ro.nil : Ro [] := fun i c hc => by cases i <;> cases hc
theorem ro_ext (t z : Nat) (cs : List Value) : HExt [] H (H.push ⟨t, z, cs, false⟩) := (HExt.refl _ _).push
/-- A row of no cells, wherever. -/
theorem SimH.roE (hs : SimH μ H w) (hro : Ro H) (t z : Nat) {g : Nat} {rs : Array Value} {bt : TypeId} {fz : Nat × Nat} (hb : w.heap[g]? = some (.cells rs bt fz)) : SimH (μ.upd H.length ⟨g, 0, 0, z⟩) (H.push ⟨t, z, [], false⟩) w := by
  have he := hs.fresh ⟨g, 0, 0, z⟩
  have key : ∀ j c, (H.push ⟨t, z, [], false⟩).at j = some c → (j < H.length ∧ H.at j = some c) ∨ (j = H.length ∧ c = ⟨t, z, [], false⟩) := fun j c hc => by
    have hlt := Hp.at_lt hc
    rw [Hp.len_push] at hlt
    rcases Nat.lt_or_ge j H.length with h | h
    · rw [Hp.at_push_lt h] at hc
      exact .inl ⟨h, hc⟩
    · obtain rfl : j = H.length := by omega
      rw [Hp.at_push_eq] at hc
      injection hc with hc
      exact .inr ⟨rfl, hc.symm⟩
  have hlt : g < w.heap.size := real_lt hb
  refine ⟨fun j c hc => ?_, fun j M hM => ?_, fun j k c c' M M' hj hk hM hM' hgg hrw => ?_⟩
  · rcases key j c hc with ⟨hj, hc⟩ | ⟨rfl, rfl⟩
    · obtain ⟨M, rs', t', fz', q1, q2, q3, q4, q5, q6, q7⟩ := hs.dom j c hc
      exact ⟨M, rs', t', fz', he j M q1, q2, q3, q4, q5, q6.mono he, q7⟩
    · exact ⟨⟨g, 0, 0, z⟩, rs, bt, fz, Ren.upd_eq _ _ _, rfl, hb, (fun h => by cases h), (fun h => by cases h), (fun k v hk => by cases hk), (fun v hv => by cases hv)⟩
  · rw [Hp.len_push]
    by_cases e : j = H.length
    · subst e
      rw [Ren.upd_eq] at hM
      injection hM with hM
      subst hM
      exact ⟨by omega, hlt⟩
    · rw [Ren.upd_ne _ _ e] at hM
      obtain ⟨q1, q2⟩ := hs.len j M hM
      exact ⟨by omega, q2⟩
  · have hr := hro.push t z []
    rcases hrw with h | h
    · rw [hr j c hj] at h; cases h
    · rw [hr k c' hk] at h; cases h
/-- A slice of bytes that came in. -/
theorem SimH.bytes (hs : SimH μ H w) (hro : Ro H) (h0 : ∃ (g : Nat) (rs : Array Value) (t : TypeId) (fz : Nat × Nat), w.heap[g]? = some (Obj.cells rs t fz)) {A : Option Addr} {n c : Nat} {l : List UInt8} (hn : n ≤ c) (hm : c ≤ maxLen) (hA : A = none → n = 0 ∧ c = 0) (hr : Rd w w.heap.size A (vb l)) (hl : l.length = c) :
    ∃ μ' H' p, SimH μ' H' w ∧ Ro H' ∧ Ext' μ μ' ∧ HExt [] H H' ∧ BS H' (.slice p n c) (l.take n) ∧ VR μ' (.slice p n c) (.slice A n c) := by
  have hcap : c < capU := by unfold maxLen at hm; unfold capU; omega
  cases A with
  | none =>
    obtain ⟨rfl, rfl⟩ := hA rfl
    exact ⟨μ, H, none, hs, hro, Ext'.refl μ, HExt.refl _ _, .none, .sl0⟩
  | some a =>
    cases l with
    | nil =>
      obtain rfl : c = 0 := hl.symm
      obtain rfl : n = 0 := by omega
      obtain ⟨g, rs, t, fz, hg⟩ := h0
      have he := hs.fresh ⟨g, 0, 0, 1⟩
      refine ⟨_, _, some ⟨H.length, 0, none⟩, hs.roE hro 0 1 hg, hro.push 0 1 [], he, (HExt.refl _ _).push, ?_, .sl (L := ⟨g, 0, 0, 1⟩) (Ren.upd_eq _ _ _) (Nat.le_refl _) hm (fun _ => rfl) (fun h => by omega) (fun h => by omega)⟩
      exact .some (Hp.at_push_id rfl) rfl rfl (Nat.le_refl _) rfl
    | cons x l =>
      obtain ⟨b, off, e, hb, _⟩ := hr 0 (.int .u8 (x.toNat : Int)) rfl
      injection e with e
      subst e
      obtain ⟨h1, h2⟩ := hs.ro hro (vb (x :: l)) (vb (x :: l)) 0 1 b off 0 (by simp [vb]) (VRs.plain (vb_plain _)) (fun v hv => List.all_eq_true.1 (all_vb (x :: l)) v hv) (fun j u hu => by
        obtain ⟨b2, off2, e2, _, hc⟩ := hr j u hu
        injection e2 with e2
        injection e2 with e3 e4
        subst e3 e4
        exact hc)
      refine ⟨_, _, some ⟨H.length, 0, none⟩, h1, hro.push _ _ _, hs.fresh _, (HExt.refl _ _).push, ?_, .sl (L := ⟨b, off, 0, 1⟩) (Ren.upd_eq _ _ _) hn hm (fun _ => rfl) (fun h => by omega) (fun _ => rfl)⟩
      exact .some (Hp.at_push_id rfl) (by rw [List.drop_zero, vb_take]) (by rw [List.length_take]; omega) (by rw [vb_length]; omega) (allU8_vb _)
theorem shaped_cells (hs : w.ShapedOpen P) (hk : (match (begin P (fun _ _ => 0) default).world.heap[P.globals.size]? with | some (Obj.cells _ _ _) => true | _ => false) = true) : ∃ (g : Nat) (rs : Array Value) (t : TypeId) (fz : Nat × Nat), w.heap[g]? = some (Obj.cells rs t fz) := by
  split at hk
  · rename_i rs t fz hb
    have hlt : P.globals.size < (begin P (fun _ _ => 0) default).world.heap.size := (Array.getElem?_eq_some_iff.1 hb).1
    obtain ⟨o, o0, h1, h2, h3⟩ := hs.2 P.globals.size (Nat.le_refl _) hlt
    rw [hb] at h2
    injection h2 with h2
    subst h2
    rw [Nat.sub_self] at h3
    have h3 : o = .cells rs t fz := by simpa [World.looseAt] using h3
    subst h3
    exact ⟨_, _, _, _, h1⟩
  · cases hk
/-- A call met in the real world. -/
theorem GCalls.enter {f : FuncId} {args : List Value} {R : Value → Prop} (h : GCalls P f args [] H (fun u _ => R u)) (hs : SimH μ H w) {rargs : Array Value} (hv : VRs μ args rargs.toList) (hp : ∀ v, R v → plainB v = true) : Calls P f rargs w (fun e w' => ∃ v, e = .returned v ∧ R v ∧ Below w.heap.size w w') := by
  refine (h μ w rargs hs hv).mono ?_
  rintro e w' ⟨v, rv, H', μ', rfl, k2, k3, _, _, k6, _⟩
  have hi : img μ [] = [] := rfl
  rw [hi] at k6
  obtain rfl := k3.plain_eq (hp v k2)
  exact ⟨rv, rfl, k2, k6.below (fun g hg => by cases hg) (Nat.le_refl _)⟩
end
section
variable {X : Type} {enc : TypeId × Value → X} {P : Program} {w : World}
/-- Bytes inside a struct, with the cells up to the capacity. -/
theorem open_btC {t e : TypeId} (ht : P.underlying t = some (.slice e)) (he : P.underlying e = some (.int .u8)) (hC : P.cellsOf e = 1) {fuel : Nat} {v : Value} {x : DataW X × List MemPlace} (h : DataW.trod enc P w 0 (fun _ => true) true fuel t [v] = some x) :
    ∃ (A : Option Addr) (n c : Nat) (l : List UInt8), v = .slice A n c ∧ n ≤ c ∧ c ≤ maxLen ∧ (A = none → n = 0 ∧ c = 0) ∧ Rd w w.heap.size A (vb l) ∧ l.length = c := by
  rcases open_ints ht he hC h with ⟨hv, _⟩ | ⟨a, n, c, zs, hv, _, hl, hm, hz, _, hcell, hwz⟩
  · simp only [List.cons.injEq, and_true] at hv
    subst hv
    exact ⟨none, 0, 0, [], rfl, Nat.le_refl _, by simp [maxLen], fun _ => ⟨rfl, rfl⟩, Rd.nil_ _ _ _, rfl⟩
  · simp only [List.cons.injEq, and_true] at hv
    subst hv
    have hz' : zs.length = c := by simpa using hz
    refine ⟨some a, n, c, zs.map fun x => UInt8.ofNat x.toNat, rfl, hl, hm, (fun h => by cases h), ?_, by simpa using hz'⟩
    have e : vb (zs.map fun x => UInt8.ofNat x.toNat) = vi .u8 zs := by
      simp only [vb, vi, List.map_map]
      refine List.map_congr_left fun x hx => ?_
      have hb := wf_u8 (hwz x hx)
      have h2 : (UInt8.ofNat x.toNat).toNat = x.toNat := by simp; omega
      show Value.int .u8 ((UInt8.ofNat x.toNat).toNat : Int) = _
      rw [h2, Int.toNat_of_nonneg hb.1]
    rw [e]
    intro j u hu
    have hj : j < zs.length := by
      simp only [vi, List.getElem?_map] at hu
      rcases Nat.lt_or_ge j zs.length with q | q
      · exact q
      · rw [List.getElem?_eq_none q] at hu
        cases hu
    have hc := hcell j hj
    obtain ⟨b, off, spot⟩ := a
    have hspot : spot = none := by
      have h0 := hcell 0 (by omega)
      simpa [Addr.add] using World.cell?_spot h0
    subst hspot
    rw [Addr.add_lit] at hc
    refine ⟨b, off, rfl, World.block_lt_of_cell? w _ hc, ?_⟩
    rw [hc]
    simp only [vi, List.getElem?_map] at hu
    rw [List.getD_eq_getElem?_getD]
    rw [List.getElem?_eq_getElem hj] at hu ⊢
    simpa using hu
theorem trod_cs {t fuel : Nat} {cs : List Value} (cs' : List Value) (e : cs' = cs) {x : DataW X × List MemPlace} (h : DataW.trod enc P w 0 (fun _ => true) true fuel t cs = some x) : DataW.trod enc P w 0 (fun _ => true) true fuel t cs' = some x := by
  rw [e]
  exact h
/-- A field of a struct, by its place. -/
theorem open_struct {e fuel : Nat} {fs : Array Field} {cs : List Value} {x : DataW X × List MemPlace} (he : P.underlying e = some (.struct fs)) (h : DataW.trod enc P w 0 (fun _ => true) true fuel e cs = some x) :
    cs.length = P.cellsOf e ∧ ∀ (j : Nat) (f : Field), fs[j]? = some f → ∃ m y, DataW.trod enc P w 0 (fun _ => true) true m f.type ((cs.drop f.offset).take (P.cellsOf f.type)) = some y := by
  obtain ⟨ys, n', hn', hy, hlen, hyl, hf⟩ := DataW.trod_struct he h
  refine ⟨hlen, fun j f hj => ?_⟩
  have hjl : j < fs.size := (Array.getElem?_eq_some_iff.1 hj).1
  have h1 := hf j f hj
  have hys : ys[j]? = some (ys[j]'(by omega)) := List.getElem?_eq_getElem (by omega)
  exact ⟨_, _, h1.trans hys⟩
end
end Go.Proofs.Ytcbngjpihcemiaa
