/- Of any bytes the block: the law. -/
import Derived.Test.YtjlimdiimdihfaaSi
import Derived.Test.YtjlimdiimdihfaaMz
import Derived.Test.YtjlimdiimdihfaaAr
namespace Go.Proofs.Ytjlimdiimdihfaa
open Go.RowKit Go.ChangeShapes Go.WideShapes Go.ChangeAt

theorem lives15 : comesTo ft noS tab 100000 8 [] (.bool true) = true := by kernel_rfl
set_option maxHeartbeats 4000000 in
set_option maxRecDepth 100000 in
set_option linter.unusedSimpArgs false in
theorem g_lives15 (H : Hp) : GCalls Try.prog 8 [] [] H (fun v H' => v = .bool true ∧ H' = H) := comesTo_any tab_is mix ft_ok (noS_ok _) lives15 H
theorem fin_ne (s : RdS) : s.fin ≠ 0 ↔ (s.e ≠ 0 ∨ 0 < s.l.length) := by
  unfold RdS.fin
  split
  · simp [*]
  · split
    · simp [*]
    · simp_all
theorem u8_is {k : UInt8} {n : Nat} (h : k.toNat = n) (hn : n < 256) : k = UInt8.ofNat n := by
  apply UInt8.toNat_inj.1
  rw [h]
  simp
  omega
theorem seg_cases (L : List UInt8) : (∃ e, segO L = .bad e ∧ regO L = .bad e) ∨ (∃ M, segO L = .data M ∧ regO L = .data M) ∨ (∃ a b c d e, segO L = .head a b c d e ∧ regO L = .nums 72 a b c d e) ∨ (∃ a b c d e, e ≤ 1 ∧ segO L = .fin a b c d (decide (e = 1)) ∧ regO L = .nums 84 a b c d e) ∨ (∃ a b c d e, 1 < e ∧ segO L = .bad 3 ∧ regO L = .nums 84 a b c d e) := by
  unfold segO regO
  cases openL L with
  | none => exact .inl ⟨4, rfl, rfl⟩
  | some b =>
    cases b with
    | nil => exact .inl ⟨3, rfl, rfl⟩
    | cons k M =>
      simp only
      generalize RdS.number ⟨M, 0⟩ segTop = r1
      generalize r1.2.number segTop = r2
      generalize r2.2.number segTop = r3
      generalize r3.2.number segTop = r4
      generalize r4.2.number segTop = r5
      have hf := fin_ne r5.2
      by_cases hk : k.toNat = 68
      · by_cases hl : 1 ≤ M.length ∧ M.length ≤ 160
        · exact .inr (.inl ⟨M, if_pos ⟨hk, hl⟩, by rw [if_pos hk, if_pos hl]⟩)
        · refine .inl ⟨3, ?_, by rw [if_pos hk, if_neg hl]⟩
          rw [if_neg (fun h => hl h.2), segN]
          split
          · rfl
          · rw [if_neg (by omega), if_neg (by omega)]
      · rw [if_neg (fun h => hk h.1), if_neg hk, segN, regN]
        by_cases h1 : r5.2.fin ≠ 0
        · exact .inl ⟨3, by rw [if_pos h1], by rw [if_pos (by have := hf.1 h1; rcases this with h | h; exact .inl h; exact .inr (.inl h))]⟩
        · have h2 : ¬ (r5.2.e ≠ 0 ∨ 0 < r5.2.l.length) := fun h => h1 (hf.2 h)
          rw [if_neg h1]
          by_cases h72 : k.toNat = 72
          · refine .inr (.inr (.inl ⟨r1.1, r2.1, r3.1, r4.1, r5.1, by rw [if_pos h72], ?_⟩))
            rw [if_neg (by rintro (h | h | h); exact h2 (.inl h); exact h2 (.inr h); exact h (.inl h72)), u8_is h72 (by omega)]
            rfl
          · rw [if_neg h72]
            by_cases h84 : k.toNat = 84
            · by_cases hl : r5.1 ≤ 1
              · refine .inr (.inr (.inr (.inl ⟨r1.1, r2.1, r3.1, r4.1, r5.1, hl, by rw [if_pos ⟨h84, hl⟩], ?_⟩)))
                rw [if_neg (by rintro (h | h | h); exact h2 (.inl h); exact h2 (.inr h); exact h (.inr h84)), u8_is h84 (by omega)]
                rfl
              · refine .inr (.inr (.inr (.inr ⟨r1.1, r2.1, r3.1, r4.1, r5.1, by omega, by rw [if_neg (by omega)], ?_⟩)))
                rw [if_neg (by rintro (h | h | h); exact h2 (.inl h); exact h2 (.inr h); exact h (.inr h84)), u8_is h84 (by omega)]
                rfl
            · exact .inl ⟨3, by rw [if_neg (by omega)], by rw [if_pos (.inr (.inr (by omega)))]⟩
set_option maxHeartbeats 4000000 in
set_option maxRecDepth 100000 in
set_option linter.unusedSimpArgs false in
theorem g_segmentReads (H : Hp) (p : Option Addr) (n c : Nat) (L : List UInt8) (hb : BS H (.slice p n c) L) : GCalls Try.prog 3 [.slice p n c] [] H fun v _ => v = .bool true := by
  by_cases hn : 500 < n
  ·
    refine GCalls.body tab_is Try.func3 rfl Try.results3 Try.ntmps3 (by simp) ?_ ?_
    · first | (intro _ h; cases h; done) | (simp; done) | (simp; omega) | (intro i hi; simp at hi; rcases hi with rfl | rfl <;> omega) | (intro i hi; simp at hi; rcases hi with rfl | rfl | rfl <;> omega)
    focus
      refine GWP.seq ?_
      refine GWP.region ?_
      refine GOps.r rfl rfl rfl rfl (grd_assign rfl rfl) ?_
      refine GOps.nil ?_
      refine GWP.seq ?_
      refine GWP.seq ?_
      refine GWP.region ?_
      refine GOps.w1 rfl rfl rfl rfl (gop_call0 (f := 8) rfl Try.call8 ?_ (g_lives15 _)) ?_
      · intro _ h; cases h; done
      refine GOps.r rfl rfl rfl rfl (grd_not rfl rfl) ?_
      refine GOps.r rfl rfl rfl rfl (grd_move rfl rfl) ?_
      refine GOps.take rfl rfl ?_ ?_
      · simp; done
      refine GOps.r rfl rfl rfl rfl (grd_move rfl rfl) ?_
      refine GOps.take rfl rfl ?_ ?_
      · simp; done
      refine GOps.r rfl rfl rfl rfl (grd_len tab_is rfl rfl rfl rfl rfl) ?_
      refine GOps.take rfl rfl ?_ ?_
      · simp; done
      refine GOps.r rfl rfl rfl rfl (grd_gtr rfl rfl rfl) ?_
      refine GOps.r rfl rfl rfl rfl (grd_pick_f rfl rfl ?_ rfl) ?_
      · simp; done
      refine GOps.nil ?_
      refine GWP.cond_t rfl ?_ ?_
      · exact decide_eq_true (by omega)
      refine GWP.seq ?_
      refine GWP.region ?_
      refine GOps.w1 rfl rfl rfl rfl (gop_call0 (f := 8) rfl Try.call8 ?_ (g_lives15 _)) ?_
      · intro _ h; cases h; done
      refine GOps.r rfl rfl rfl rfl (grd_assign rfl rfl) ?_
      refine GOps.nil ?_
      refine GWP.ret ?_
      refine ⟨_, .one rfl, ?_⟩
      · rfl
  have hR := fun H p n c hb hn => g_rread H p n c L hb hn
  have hS := fun H p n c hb hn => g_sread H p n c L hb hn
  have u1 : ((UInt8.toNat 72 : Nat) : Int) = 72 := rfl
  have u2 : ((UInt8.toNat 84 : Nat) : Int) = 84 := rfl
  rcases seg_cases L with ⟨e, e1, e2⟩ | ⟨M, e1, e2⟩ | ⟨x1, x2, x3, x4, x5, e1, e2⟩ | ⟨x1, x2, x3, x4, x5, hx, e1, e2⟩ | ⟨x1, x2, x3, x4, x5, hx, e1, e2⟩ <;> (rw [e1] at hS; rw [e2] at hR; simp only [SegV, regV, blkV, u1, u2] at hR hS; clear e1 e2 u1 u2)
  ·
    refine GCalls.body tab_is Try.func3 rfl Try.results3 Try.ntmps3 (by simp) ?_ ?_
    · first | (intro _ h; cases h; done) | (simp; done) | (simp; omega) | (intro i hi; simp at hi; rcases hi with rfl | rfl <;> omega) | (intro i hi; simp at hi; rcases hi with rfl | rfl | rfl <;> omega)
    focus
      refine GWP.seq ?_
      refine GWP.region ?_
      refine GOps.r rfl rfl rfl rfl (grd_assign rfl rfl) ?_
      refine GOps.nil ?_
      refine GWP.seq ?_
      refine GWP.seq ?_
      refine GWP.region ?_
      refine GOps.w1 rfl rfl rfl rfl (gop_call0 (f := 8) rfl Try.call8 ?_ (g_lives15 _)) ?_
      · intro _ h; cases h; done
      refine GOps.r rfl rfl rfl rfl (grd_not rfl rfl) ?_
      refine GOps.r rfl rfl rfl rfl (grd_move rfl rfl) ?_
      refine GOps.take rfl rfl ?_ ?_
      · simp; done
      refine GOps.r rfl rfl rfl rfl (grd_move rfl rfl) ?_
      refine GOps.take rfl rfl ?_ ?_
      · simp; done
      refine GOps.r rfl rfl rfl rfl (grd_len tab_is rfl rfl rfl rfl rfl) ?_
      refine GOps.take rfl rfl ?_ ?_
      · simp; done
      refine GOps.r rfl rfl rfl rfl (grd_gtr rfl rfl rfl) ?_
      refine GOps.r rfl rfl rfl rfl (grd_pick_f rfl rfl ?_ rfl) ?_
      · simp; done
      refine GOps.nil ?_
      refine GWP.cond_f rfl ?_ ?_
      · exact decide_eq_false (by omega)
      refine GWP.skip ?_
      refine GWP.seq ?_
      refine GWP.region ?_
      refine GOps.r rfl rfl rfl rfl (grd_move rfl rfl) ?_
      refine GOps.w rfl rfl rfl rfl (gop_call rfl Try.call9 rfl ?_ (hS _ _ _ _ ?_ ?_)) ?_
      · intro _ h; cases h; done
      · assumption
      · omega
      rintro _ Hxb1 ⟨rfl, xb1⟩
      have xb1l := HExt.len xb1; try simp at xb1l
      refine GOps.r rfl rfl rfl rfl (grd_move rfl rfl) ?_
      focus
        refine GOps.r rfl rfl rfl rfl (grd_extract (v := ?_) rfl rfl ?_) ?_
        rotate_left 1
        · simp only [List.getElem?_toArray, List.getElem?_cons_zero, List.getElem?_cons_succ]; rfl
      focus
        refine GOps.r rfl rfl rfl rfl (grd_extract (v := ?_) rfl rfl ?_) ?_
        rotate_left 1
        · simp only [List.getElem?_toArray, List.getElem?_cons_zero, List.getElem?_cons_succ]; rfl
      refine GOps.r rfl rfl rfl rfl (grd_assign rfl rfl) ?_
      refine GOps.r rfl rfl rfl rfl (grd_assign rfl rfl) ?_
      refine GOps.nil ?_
      refine GWP.seq ?_
      refine GWP.region ?_
      refine GOps.r rfl rfl rfl rfl (grd_move rfl rfl) ?_
      refine GOps.w rfl rfl rfl rfl (gop_call rfl Try.call10 rfl ?_ (hR _ _ _ _ ?_ ?_)) ?_
      · intro _ h; cases h; done
      refine BS.ext (by assumption) ?_
      · assumption
      · omega
      rintro _ Hxb2 ⟨rfl, xb2⟩
      have xb2l := HExt.len xb2; try simp at xb2l
      refine GOps.r rfl rfl rfl rfl (grd_move rfl rfl) ?_
      focus
        refine GOps.r rfl rfl rfl rfl (grd_extract (v := ?_) rfl rfl ?_) ?_
        rotate_left 1
        · simp only [List.getElem?_toArray, List.getElem?_cons_zero, List.getElem?_cons_succ]; rfl
      focus
        refine GOps.r rfl rfl rfl rfl (grd_extract (v := ?_) rfl rfl ?_) ?_
        rotate_left 1
        · simp only [List.getElem?_toArray, List.getElem?_cons_zero, List.getElem?_cons_succ]; rfl
      focus
        refine GOps.w1 rfl rfl rfl rfl (gop_alloc' (id := ?_) ?_ tab_is rfl rfl ?_) ?_
        rotate_left 1
        · rfl
        · decide
      focus
        refine GOps.s rfl rfl rfl (gop_storeC (b := ?_) (cs := ?_) tab_is rfl rfl ?_ rfl rfl ?_ ?_ ?_ ?_ ?_ ?_) ?_
        rotate_left 2
        · rfl
        · rfl
        · exact Hp.at_push_eq
        · rfl
        · decide
        · exact .inr (by simp; omega)
        · simp [splice, Value.cells]; rfl
      refine GOps.r rfl rfl rfl rfl (grd_assign rfl rfl) ?_
      refine GOps.nil ?_
      refine GWP.seq ?_
      refine GWP.seq ?_
      refine GWP.region ?_
      refine GOps.r rfl rfl rfl rfl (grd_fieldAddr tab_is rfl rfl rfl rfl rfl) ?_
      focus
        refine GOps.r rfl rfl rfl rfl (grd_load1 (b := ?_) (v := ?_) tab_is rfl rfl rfl rfl ?_ ?_) ?_
        rotate_left 2
        refine Hp.at_put_eq ?_
        · simp; done
        · rfl
      refine GOps.r rfl rfl rfl rfl (grd_eql rfl rfl rfl) ?_
      refine GOps.r rfl rfl rfl rfl (grd_move rfl rfl) ?_
      refine GOps.no rfl ?_ rfl rfl ?_
      · simp; done
      refine GOps.no rfl ?_ rfl rfl ?_
      · simp; done
      refine GOps.no rfl ?_ rfl rfl ?_
      · simp; done
      refine GOps.no rfl ?_ rfl rfl ?_
      · simp; done
      refine GOps.r rfl rfl rfl rfl (grd_pick_f rfl rfl ?_ rfl) ?_
      · exact decide_eq_false (by omega)
      refine GOps.nil ?_
      refine GWP.cond_f rfl ?_ ?_
      · with_reducible rfl
      refine GWP.skip ?_
      refine GWP.seq ?_
      refine GWP.draw [.reads [0, 1, 2, 3, 4, 6], .write 5, .reads [7, 8, 9]] false [List.length Hxb2] (by kernel_rfl) (by kernel_rfl) (by kernel_rfl) (by kernel_rfl) ?_ ?_
      · simp; done
      refine GPcs.reads (by simp only [List.filterMap_cons, List.filterMap_nil, List.getElem?_toArray, List.getElem?_cons_succ, List.getElem?_cons_zero]; rfl) ?_
      refine GQ.r rfl rfl rfl rfl (grd_move rfl rfl) ?_ ?_
      · refine .inr ?_; simp
      refine GQ.r rfl rfl rfl rfl (grd_move rfl rfl) ?_ ?_
      · refine .inr ?_; simp
      refine GQ.r rfl rfl rfl rfl (grd_eql rfl rfl rfl) ?_ ?_
      · refine .inr ?_; simp
      refine GQ.r rfl rfl rfl rfl (grd_move rfl rfl) ?_ ?_
      · refine .inr ?_; simp
      refine GQ.take rfl rfl ?_ ?_
      · simp; done
      refine GQ.r rfl rfl rfl rfl (grd_move rfl rfl) ?_ ?_
      · refine .inr ?_; simp
      refine GQ.take rfl rfl ?_ ?_
      · simp; done
      focus
        refine GQ.r rfl rfl rfl rfl (grd_loadNK (b := ?_) (cs := ?_) tab_is rfl rfl rfl rfl ?_ ?_ ?_) ?_ ?_
        rotate_left 2
        refine Hp.at_put_eq ?_
        · simp; done
        · decide
        · simp [Value.cells]; rfl
        · refine .inr ?_; simp
      refine GQ.nil ?_
      refine GPcs.write true [List.length Hxb2] rfl rfl ?_ rfl rfl (gopf_call rfl Try.call11 rfl ?_ (g_plain0 _)) rfl ?_ ?_ ?_ ?_
      · simp; done
      · intro _ h; cases h; done
      · intro _ h; cases h; done
      focus
        refine List.forall_mem_cons.2 ⟨⟨⟨?_, ?_⟩, ?_⟩, ?_⟩
        rotate_left 1
        refine Hp.at_put_eq ?_
        · simp; done
        · intro h; cases h; done
        · intro _ h; cases h; done
      · simp; done
      rintro _ Hxb3 ⟨rfl, xb3⟩
      have xb3l := HExt.len xb3; try simp at xb3l
      refine ⟨?_, ?_⟩
      · simp; omega
      refine GPcs.reads (by simp only [List.filterMap_cons, List.filterMap_nil, List.getElem?_toArray, List.getElem?_cons_succ, List.getElem?_cons_zero]; rfl) ?_
      refine GQ.take rfl rfl ?_ ?_
      · simp; done
      focus
        refine GQ.r rfl rfl rfl rfl (grd_aeqlK (b := ?_) tab_is rfl rfl rfl rfl rfl rfl ?_ ?_ ?_) ?_ ?_
        rotate_left 1
        · rfl
        · rfl
        · simp [lEq, cEq]; rfl
        · exact .inl rfl
      refine GQ.r rfl rfl rfl rfl (grd_pick_t rfl rfl ?_ rfl) ?_ ?_
      · exact decide_eq_true (by omega)
      · exact .inl rfl
      refine GQ.r rfl rfl rfl rfl (grd_assign rfl rfl) ?_ ?_
      · exact .inl rfl
      refine GQ.nil ?_
      refine GPcs.nil ?_
      refine GWP.ret ?_
      refine ⟨_, .one rfl, ?_⟩
      · rfl
  ·
    refine GCalls.body tab_is Try.func3 rfl Try.results3 Try.ntmps3 (by simp) ?_ ?_
    · first | (intro _ h; cases h; done) | (simp; done) | (simp; omega) | (intro i hi; simp at hi; rcases hi with rfl | rfl <;> omega) | (intro i hi; simp at hi; rcases hi with rfl | rfl | rfl <;> omega)
    focus
      refine GWP.seq ?_
      refine GWP.region ?_
      refine GOps.r rfl rfl rfl rfl (grd_assign rfl rfl) ?_
      refine GOps.nil ?_
      refine GWP.seq ?_
      refine GWP.seq ?_
      refine GWP.region ?_
      refine GOps.w1 rfl rfl rfl rfl (gop_call0 (f := 8) rfl Try.call8 ?_ (g_lives15 _)) ?_
      · intro _ h; cases h; done
      refine GOps.r rfl rfl rfl rfl (grd_not rfl rfl) ?_
      refine GOps.r rfl rfl rfl rfl (grd_move rfl rfl) ?_
      refine GOps.take rfl rfl ?_ ?_
      · simp; done
      refine GOps.r rfl rfl rfl rfl (grd_move rfl rfl) ?_
      refine GOps.take rfl rfl ?_ ?_
      · simp; done
      refine GOps.r rfl rfl rfl rfl (grd_len tab_is rfl rfl rfl rfl rfl) ?_
      refine GOps.take rfl rfl ?_ ?_
      · simp; done
      refine GOps.r rfl rfl rfl rfl (grd_gtr rfl rfl rfl) ?_
      refine GOps.r rfl rfl rfl rfl (grd_pick_f rfl rfl ?_ rfl) ?_
      · simp; done
      refine GOps.nil ?_
      refine GWP.cond_f rfl ?_ ?_
      · exact decide_eq_false (by omega)
      refine GWP.skip ?_
      refine GWP.seq ?_
      refine GWP.region ?_
      refine GOps.r rfl rfl rfl rfl (grd_move rfl rfl) ?_
      refine GOps.w rfl rfl rfl rfl (gop_call rfl Try.call9 rfl ?_ (hS _ _ _ _ ?_ ?_)) ?_
      · intro _ h; cases h; done
      · assumption
      · omega
      rintro _ Hxd5 ⟨⟨pd1, nd2, cd3, rfl, bd4⟩, xd5⟩
      have xd5l := HExt.len xd5; try simp at xd5l
      refine GOps.r rfl rfl rfl rfl (grd_move rfl rfl) ?_
      focus
        refine GOps.r rfl rfl rfl rfl (grd_extract (v := ?_) rfl rfl ?_) ?_
        rotate_left 1
        · simp only [List.getElem?_toArray, List.getElem?_cons_zero, List.getElem?_cons_succ]; rfl
      focus
        refine GOps.r rfl rfl rfl rfl (grd_extract (v := ?_) rfl rfl ?_) ?_
        rotate_left 1
        · simp only [List.getElem?_toArray, List.getElem?_cons_zero, List.getElem?_cons_succ]; rfl
      refine GOps.r rfl rfl rfl rfl (grd_assign rfl rfl) ?_
      refine GOps.r rfl rfl rfl rfl (grd_assign rfl rfl) ?_
      refine GOps.nil ?_
      refine GWP.seq ?_
      refine GWP.region ?_
      refine GOps.r rfl rfl rfl rfl (grd_move rfl rfl) ?_
      refine GOps.w rfl rfl rfl rfl (gop_call rfl Try.call10 rfl ?_ (hR _ _ _ _ ?_ ?_)) ?_
      · intro _ h; cases h; done
      refine BS.ext (by assumption) ?_
      · assumption
      · omega
      rintro _ Hxd6 ⟨rfl, xd6⟩
      have xd6l := HExt.len xd6; try simp at xd6l
      refine GOps.r rfl rfl rfl rfl (grd_move rfl rfl) ?_
      focus
        refine GOps.r rfl rfl rfl rfl (grd_extract (v := ?_) rfl rfl ?_) ?_
        rotate_left 1
        · simp only [List.getElem?_toArray, List.getElem?_cons_zero, List.getElem?_cons_succ]; rfl
      focus
        refine GOps.r rfl rfl rfl rfl (grd_extract (v := ?_) rfl rfl ?_) ?_
        rotate_left 1
        · simp only [List.getElem?_toArray, List.getElem?_cons_zero, List.getElem?_cons_succ]; rfl
      focus
        refine GOps.w1 rfl rfl rfl rfl (gop_alloc' (id := ?_) ?_ tab_is rfl rfl ?_) ?_
        rotate_left 1
        · rfl
        · decide
      focus
        refine GOps.s rfl rfl rfl (gop_storeC (b := ?_) (cs := ?_) tab_is rfl rfl ?_ rfl rfl ?_ ?_ ?_ ?_ ?_ ?_) ?_
        rotate_left 2
        · rfl
        · rfl
        · exact Hp.at_push_eq
        · rfl
        · exact Nat.le_of_ble_eq_true rfl
        · exact .inr (by simp; omega)
        · simp [splice, Value.cells]; rfl
      refine GOps.r rfl rfl rfl rfl (grd_assign rfl rfl) ?_
      refine GOps.nil ?_
      refine GWP.seq ?_
      refine GWP.seq ?_
      refine GWP.region ?_
      refine GOps.r rfl rfl rfl rfl (grd_fieldAddr tab_is rfl rfl rfl rfl rfl) ?_
      focus
        refine GOps.r rfl rfl rfl rfl (grd_load1 (b := ?_) (v := ?_) tab_is rfl rfl rfl rfl ?_ ?_) ?_
        rotate_left 2
        refine Hp.at_put_eq ?_
        · simp; done
        · rfl
      refine GOps.r rfl rfl rfl rfl (grd_eql rfl rfl rfl) ?_
      refine GOps.r rfl rfl rfl rfl (grd_move rfl rfl) ?_
      refine GOps.no rfl ?_ rfl rfl ?_
      · simp; done
      refine GOps.no rfl ?_ rfl rfl ?_
      · simp; done
      refine GOps.no rfl ?_ rfl rfl ?_
      · simp; done
      refine GOps.no rfl ?_ rfl rfl ?_
      · simp; done
      refine GOps.r rfl rfl rfl rfl (grd_pick_f rfl rfl ?_ rfl) ?_
      · exact decide_eq_false (by omega)
      refine GOps.nil ?_
      refine GWP.cond_f rfl ?_ ?_
      · with_reducible rfl
      refine GWP.skip ?_
      refine GWP.seq ?_
      refine GWP.draw [.reads [0, 1, 2, 3, 4, 6], .write 5, .reads [7, 8, 9]] false [List.length Hxd6] (by kernel_rfl) (by kernel_rfl) (by kernel_rfl) (by kernel_rfl) ?_ ?_
      · simp; done
      refine GPcs.reads (by simp only [List.filterMap_cons, List.filterMap_nil, List.getElem?_toArray, List.getElem?_cons_succ, List.getElem?_cons_zero]; rfl) ?_
      refine GQ.r rfl rfl rfl rfl (grd_move rfl rfl) ?_ ?_
      · refine .inr ?_; simp
      refine GQ.r rfl rfl rfl rfl (grd_move rfl rfl) ?_ ?_
      · refine .inr ?_; simp
      refine GQ.r rfl rfl rfl rfl (grd_eql rfl rfl rfl) ?_ ?_
      · refine .inr ?_; simp
      refine GQ.r rfl rfl rfl rfl (grd_move rfl rfl) ?_ ?_
      · refine .inr ?_; simp
      refine GQ.take rfl rfl ?_ ?_
      · simp; done
      refine GQ.r rfl rfl rfl rfl (grd_move rfl rfl) ?_ ?_
      · refine .inr ?_; simp
      refine GQ.take rfl rfl ?_ ?_
      · simp; done
      focus
        refine GQ.r rfl rfl rfl rfl (grd_loadNK (b := ?_) (cs := ?_) tab_is rfl rfl rfl rfl ?_ ?_ ?_) ?_ ?_
        rotate_left 2
        refine Hp.at_put_eq ?_
        · simp; done
        · exact Nat.le_of_ble_eq_true rfl
        · simp [Value.cells]; rfl
        · refine .inr ?_; simp
      refine GQ.nil ?_
      focus
        refine GPcs.write true [List.length Hxd6] rfl rfl ?_ rfl rfl (gopf_call rfl Try.call11 rfl ?_ (g_plainD _ _ _ _ ?_ ?_)) rfl ?_ ?_ ?_ ?_
        · simp; done
        · intro _ h; cases h; done
        rotate_left 1
        refine BS.ext (by assumption) ?_
        refine HExt.put ?_ ?_
        refine HExt.push ?_
        · assumption
        · exact .inr (by omega)
        · intro _ h; cases h; done
        focus
          refine List.forall_mem_cons.2 ⟨⟨⟨?_, ?_⟩, ?_⟩, ?_⟩
          rotate_left 1
          refine Hp.at_put_eq ?_
          · simp; done
          · intro h; cases h; done
          · intro _ h; cases h; done
        · simp; done
      rintro _ Hxd7 ⟨rfl, xd7⟩
      have xd7l := HExt.len xd7; try simp at xd7l
      refine ⟨?_, ?_⟩
      · simp; omega
      refine GPcs.reads (by simp only [List.filterMap_cons, List.filterMap_nil, List.getElem?_toArray, List.getElem?_cons_succ, List.getElem?_cons_zero]; rfl) ?_
      refine GQ.take rfl rfl ?_ ?_
      · simp; done
      focus
        refine GQ.r rfl rfl rfl rfl (grd_aeqlK (b := ?_) tab_is rfl rfl rfl rfl rfl rfl ?_ ?_ ?_) ?_ ?_
        rotate_left 1
        · rfl
        · rfl
        · simp [lEq, cEq]; rfl
        · exact .inl rfl
      refine GQ.r rfl rfl rfl rfl (grd_pick_t rfl rfl ?_ rfl) ?_ ?_
      · exact decide_eq_true (by omega)
      · exact .inl rfl
      refine GQ.r rfl rfl rfl rfl (grd_assign rfl rfl) ?_ ?_
      · exact .inl rfl
      refine GQ.nil ?_
      refine GPcs.nil ?_
      refine GWP.ret ?_
      refine ⟨_, .one rfl, ?_⟩
      · rfl
  ·
    refine GCalls.body tab_is Try.func3 rfl Try.results3 Try.ntmps3 (by simp) ?_ ?_
    · first | (intro _ h; cases h; done) | (simp; done) | (simp; omega) | (intro i hi; simp at hi; rcases hi with rfl | rfl <;> omega) | (intro i hi; simp at hi; rcases hi with rfl | rfl | rfl <;> omega)
    focus
      refine GWP.seq ?_
      refine GWP.region ?_
      refine GOps.r rfl rfl rfl rfl (grd_assign rfl rfl) ?_
      refine GOps.nil ?_
      refine GWP.seq ?_
      refine GWP.seq ?_
      refine GWP.region ?_
      refine GOps.w1 rfl rfl rfl rfl (gop_call0 (f := 8) rfl Try.call8 ?_ (g_lives15 _)) ?_
      · intro _ h; cases h; done
      refine GOps.r rfl rfl rfl rfl (grd_not rfl rfl) ?_
      refine GOps.r rfl rfl rfl rfl (grd_move rfl rfl) ?_
      refine GOps.take rfl rfl ?_ ?_
      · simp; done
      refine GOps.r rfl rfl rfl rfl (grd_move rfl rfl) ?_
      refine GOps.take rfl rfl ?_ ?_
      · simp; done
      refine GOps.r rfl rfl rfl rfl (grd_len tab_is rfl rfl rfl rfl rfl) ?_
      refine GOps.take rfl rfl ?_ ?_
      · simp; done
      refine GOps.r rfl rfl rfl rfl (grd_gtr rfl rfl rfl) ?_
      refine GOps.r rfl rfl rfl rfl (grd_pick_f rfl rfl ?_ rfl) ?_
      · simp; done
      refine GOps.nil ?_
      refine GWP.cond_f rfl ?_ ?_
      · exact decide_eq_false (by omega)
      refine GWP.skip ?_
      refine GWP.seq ?_
      refine GWP.region ?_
      refine GOps.r rfl rfl rfl rfl (grd_move rfl rfl) ?_
      refine GOps.w rfl rfl rfl rfl (gop_call rfl Try.call9 rfl ?_ (hS _ _ _ _ ?_ ?_)) ?_
      · intro _ h; cases h; done
      · assumption
      · omega
      rintro _ Hxe1 ⟨rfl, xe1⟩
      have xe1l := HExt.len xe1; try simp at xe1l
      refine GOps.r rfl rfl rfl rfl (grd_move rfl rfl) ?_
      focus
        refine GOps.r rfl rfl rfl rfl (grd_extract (v := ?_) rfl rfl ?_) ?_
        rotate_left 1
        · simp only [List.getElem?_toArray, List.getElem?_cons_zero, List.getElem?_cons_succ]; rfl
      focus
        refine GOps.r rfl rfl rfl rfl (grd_extract (v := ?_) rfl rfl ?_) ?_
        rotate_left 1
        · simp only [List.getElem?_toArray, List.getElem?_cons_zero, List.getElem?_cons_succ]; rfl
      refine GOps.r rfl rfl rfl rfl (grd_assign rfl rfl) ?_
      refine GOps.r rfl rfl rfl rfl (grd_assign rfl rfl) ?_
      refine GOps.nil ?_
      refine GWP.seq ?_
      refine GWP.region ?_
      refine GOps.r rfl rfl rfl rfl (grd_move rfl rfl) ?_
      refine GOps.w rfl rfl rfl rfl (gop_call rfl Try.call10 rfl ?_ (hR _ _ _ _ ?_ ?_)) ?_
      · intro _ h; cases h; done
      refine BS.ext (by assumption) ?_
      · assumption
      · omega
      rintro _ Hxe2 ⟨rfl, xe2⟩
      have xe2l := HExt.len xe2; try simp at xe2l
      refine GOps.r rfl rfl rfl rfl (grd_move rfl rfl) ?_
      focus
        refine GOps.r rfl rfl rfl rfl (grd_extract (v := ?_) rfl rfl ?_) ?_
        rotate_left 1
        · simp only [List.getElem?_toArray, List.getElem?_cons_zero, List.getElem?_cons_succ]; rfl
      focus
        refine GOps.r rfl rfl rfl rfl (grd_extract (v := ?_) rfl rfl ?_) ?_
        rotate_left 1
        · simp only [List.getElem?_toArray, List.getElem?_cons_zero, List.getElem?_cons_succ]; rfl
      focus
        refine GOps.w1 rfl rfl rfl rfl (gop_alloc' (id := ?_) ?_ tab_is rfl rfl ?_) ?_
        rotate_left 1
        · rfl
        · decide
      focus
        refine GOps.s rfl rfl rfl (gop_storeC (b := ?_) (cs := ?_) tab_is rfl rfl ?_ rfl rfl ?_ ?_ ?_ ?_ ?_ ?_) ?_
        rotate_left 2
        · rfl
        · rfl
        · exact Hp.at_push_eq
        · rfl
        · exact Nat.le_of_ble_eq_true rfl
        · exact .inr (by simp; omega)
        · simp [splice, Value.cells]; rfl
      refine GOps.r rfl rfl rfl rfl (grd_assign rfl rfl) ?_
      refine GOps.nil ?_
      refine GWP.seq ?_
      refine GWP.seq ?_
      refine GWP.region ?_
      refine GOps.r rfl rfl rfl rfl (grd_fieldAddr tab_is rfl rfl rfl rfl rfl) ?_
      focus
        refine GOps.r rfl rfl rfl rfl (grd_load1 (b := ?_) (v := ?_) tab_is rfl rfl rfl rfl ?_ ?_) ?_
        rotate_left 2
        refine Hp.at_put_eq ?_
        · simp; done
        · rfl
      refine GOps.r rfl rfl rfl rfl (grd_eql rfl rfl rfl) ?_
      refine GOps.r rfl rfl rfl rfl (grd_move rfl rfl) ?_
      refine GOps.no rfl ?_ rfl rfl ?_
      · simp; done
      refine GOps.no rfl ?_ rfl rfl ?_
      · simp; done
      refine GOps.no rfl ?_ rfl rfl ?_
      · simp; done
      refine GOps.no rfl ?_ rfl rfl ?_
      · simp; done
      refine GOps.r rfl rfl rfl rfl (grd_pick_f rfl rfl ?_ rfl) ?_
      · exact decide_eq_false (by omega)
      refine GOps.nil ?_
      refine GWP.cond_f rfl ?_ ?_
      · with_reducible rfl
      refine GWP.skip ?_
      refine GWP.seq ?_
      refine GWP.draw [.reads [0, 1, 2, 3, 4, 6], .write 5, .reads [7, 8, 9]] false [List.length Hxe2] (by kernel_rfl) (by kernel_rfl) (by kernel_rfl) (by kernel_rfl) ?_ ?_
      · simp; done
      refine GPcs.reads (by simp only [List.filterMap_cons, List.filterMap_nil, List.getElem?_toArray, List.getElem?_cons_succ, List.getElem?_cons_zero]; rfl) ?_
      refine GQ.r rfl rfl rfl rfl (grd_move rfl rfl) ?_ ?_
      · refine .inr ?_; simp
      refine GQ.r rfl rfl rfl rfl (grd_move rfl rfl) ?_ ?_
      · refine .inr ?_; simp
      refine GQ.r rfl rfl rfl rfl (grd_eql rfl rfl rfl) ?_ ?_
      · refine .inr ?_; simp
      refine GQ.r rfl rfl rfl rfl (grd_move rfl rfl) ?_ ?_
      · refine .inr ?_; simp
      refine GQ.take rfl rfl ?_ ?_
      · simp; done
      refine GQ.r rfl rfl rfl rfl (grd_move rfl rfl) ?_ ?_
      · refine .inr ?_; simp
      refine GQ.take rfl rfl ?_ ?_
      · simp; done
      focus
        refine GQ.r rfl rfl rfl rfl (grd_loadNK (b := ?_) (cs := ?_) tab_is rfl rfl rfl rfl ?_ ?_ ?_) ?_ ?_
        rotate_left 2
        refine Hp.at_put_eq ?_
        · simp; done
        · exact Nat.le_of_ble_eq_true rfl
        · simp [Value.cells]; rfl
        · refine .inr ?_; simp
      refine GQ.nil ?_
      refine GPcs.write true [List.length Hxe2] rfl rfl ?_ rfl rfl (gopf_call rfl Try.call11 rfl ?_ (g_plainH _ _ _ _ _ _)) rfl ?_ ?_ ?_ ?_
      · simp; done
      · intro _ h; cases h; done
      · intro _ h; cases h; done
      focus
        refine List.forall_mem_cons.2 ⟨⟨⟨?_, ?_⟩, ?_⟩, ?_⟩
        rotate_left 1
        refine Hp.at_put_eq ?_
        · simp; done
        · intro h; cases h; done
        · intro _ h; cases h; done
      · simp; done
      rintro _ Hxe3 ⟨rfl, xe3⟩
      have xe3l := HExt.len xe3; try simp at xe3l
      refine ⟨?_, ?_⟩
      · simp; omega
      refine GPcs.reads (by simp only [List.filterMap_cons, List.filterMap_nil, List.getElem?_toArray, List.getElem?_cons_succ, List.getElem?_cons_zero]; rfl) ?_
      refine GQ.take rfl rfl ?_ ?_
      · simp; done
      focus
        refine GQ.r rfl rfl rfl rfl (grd_aeqlK (b := ?_) tab_is rfl rfl rfl rfl rfl rfl ?_ ?_ ?_) ?_ ?_
        rotate_left 1
        · rfl
        · rfl
        · simp [lEq, cEq]; rfl
        · exact .inl rfl
      refine GQ.r rfl rfl rfl rfl (grd_pick_t rfl rfl ?_ rfl) ?_ ?_
      · exact decide_eq_true (by omega)
      · exact .inl rfl
      refine GQ.r rfl rfl rfl rfl (grd_assign rfl rfl) ?_ ?_
      · exact .inl rfl
      refine GQ.nil ?_
      refine GPcs.nil ?_
      refine GWP.ret ?_
      refine ⟨_, .one rfl, ?_⟩
      · rfl
  · have hd : (if decide (x5 = 1) = true then (1 : Int) else 0) = (x5 : Int) := by
      by_cases h : x5 = 1
      · subst h; rfl
      · obtain rfl : x5 = 0 := by omega
        rfl
    have hP := fun H => g_plainT H x1 x2 x3 x4 (decide (x5 = 1))
    simp only [blkV, hd] at hP
    refine GCalls.body tab_is Try.func3 rfl Try.results3 Try.ntmps3 (by simp) ?_ ?_
    · first | (intro _ h; cases h; done) | (simp; done) | (simp; omega) | (intro i hi; simp at hi; rcases hi with rfl | rfl <;> omega) | (intro i hi; simp at hi; rcases hi with rfl | rfl | rfl <;> omega)
    focus
      refine GWP.seq ?_
      refine GWP.region ?_
      refine GOps.r rfl rfl rfl rfl (grd_assign rfl rfl) ?_
      refine GOps.nil ?_
      refine GWP.seq ?_
      refine GWP.seq ?_
      refine GWP.region ?_
      refine GOps.w1 rfl rfl rfl rfl (gop_call0 (f := 8) rfl Try.call8 ?_ (g_lives15 _)) ?_
      · intro _ h; cases h; done
      refine GOps.r rfl rfl rfl rfl (grd_not rfl rfl) ?_
      refine GOps.r rfl rfl rfl rfl (grd_move rfl rfl) ?_
      refine GOps.take rfl rfl ?_ ?_
      · simp; done
      refine GOps.r rfl rfl rfl rfl (grd_move rfl rfl) ?_
      refine GOps.take rfl rfl ?_ ?_
      · simp; done
      refine GOps.r rfl rfl rfl rfl (grd_len tab_is rfl rfl rfl rfl rfl) ?_
      refine GOps.take rfl rfl ?_ ?_
      · simp; done
      refine GOps.r rfl rfl rfl rfl (grd_gtr rfl rfl rfl) ?_
      refine GOps.r rfl rfl rfl rfl (grd_pick_f rfl rfl ?_ rfl) ?_
      · simp; done
      refine GOps.nil ?_
      refine GWP.cond_f rfl ?_ ?_
      · exact decide_eq_false (by omega)
      refine GWP.skip ?_
      refine GWP.seq ?_
      refine GWP.region ?_
      refine GOps.r rfl rfl rfl rfl (grd_move rfl rfl) ?_
      refine GOps.w rfl rfl rfl rfl (gop_call rfl Try.call9 rfl ?_ (hS _ _ _ _ ?_ ?_)) ?_
      · intro _ h; cases h; done
      · assumption
      · omega
      rintro _ Hxf1 ⟨rfl, xf1⟩
      have xf1l := HExt.len xf1; try simp at xf1l
      refine GOps.r rfl rfl rfl rfl (grd_move rfl rfl) ?_
      focus
        refine GOps.r rfl rfl rfl rfl (grd_extract (v := ?_) rfl rfl ?_) ?_
        rotate_left 1
        · simp only [List.getElem?_toArray, List.getElem?_cons_zero, List.getElem?_cons_succ]; rfl
      focus
        refine GOps.r rfl rfl rfl rfl (grd_extract (v := ?_) rfl rfl ?_) ?_
        rotate_left 1
        · simp only [List.getElem?_toArray, List.getElem?_cons_zero, List.getElem?_cons_succ]; rfl
      refine GOps.r rfl rfl rfl rfl (grd_assign rfl rfl) ?_
      refine GOps.r rfl rfl rfl rfl (grd_assign rfl rfl) ?_
      refine GOps.nil ?_
      refine GWP.seq ?_
      refine GWP.region ?_
      refine GOps.r rfl rfl rfl rfl (grd_move rfl rfl) ?_
      refine GOps.w rfl rfl rfl rfl (gop_call rfl Try.call10 rfl ?_ (hR _ _ _ _ ?_ ?_)) ?_
      · intro _ h; cases h; done
      refine BS.ext (by assumption) ?_
      · assumption
      · omega
      rintro _ Hxf2 ⟨rfl, xf2⟩
      have xf2l := HExt.len xf2; try simp at xf2l
      refine GOps.r rfl rfl rfl rfl (grd_move rfl rfl) ?_
      focus
        refine GOps.r rfl rfl rfl rfl (grd_extract (v := ?_) rfl rfl ?_) ?_
        rotate_left 1
        · simp only [List.getElem?_toArray, List.getElem?_cons_zero, List.getElem?_cons_succ]; rfl
      focus
        refine GOps.r rfl rfl rfl rfl (grd_extract (v := ?_) rfl rfl ?_) ?_
        rotate_left 1
        · simp only [List.getElem?_toArray, List.getElem?_cons_zero, List.getElem?_cons_succ]; rfl
      focus
        refine GOps.w1 rfl rfl rfl rfl (gop_alloc' (id := ?_) ?_ tab_is rfl rfl ?_) ?_
        rotate_left 1
        · rfl
        · decide
      focus
        refine GOps.s rfl rfl rfl (gop_storeC (b := ?_) (cs := ?_) tab_is rfl rfl ?_ rfl rfl ?_ ?_ ?_ ?_ ?_ ?_) ?_
        rotate_left 2
        · rfl
        · rfl
        · exact Hp.at_push_eq
        · rfl
        · exact Nat.le_of_ble_eq_true rfl
        · exact .inr (by simp; omega)
        · simp [splice, Value.cells]; rfl
      refine GOps.r rfl rfl rfl rfl (grd_assign rfl rfl) ?_
      refine GOps.nil ?_
      refine GWP.seq ?_
      refine GWP.seq ?_
      refine GWP.region ?_
      refine GOps.r rfl rfl rfl rfl (grd_fieldAddr tab_is rfl rfl rfl rfl rfl) ?_
      focus
        refine GOps.r rfl rfl rfl rfl (grd_load1 (b := ?_) (v := ?_) tab_is rfl rfl rfl rfl ?_ ?_) ?_
        rotate_left 2
        refine Hp.at_put_eq ?_
        · simp; done
        · rfl
      refine GOps.r rfl rfl rfl rfl (grd_eql rfl rfl rfl) ?_
      refine GOps.r rfl rfl rfl rfl (grd_move rfl rfl) ?_
      refine GOps.take rfl rfl ?_ ?_
      · simp; done
      refine GOps.r rfl rfl rfl rfl (grd_fieldAddr tab_is rfl rfl rfl rfl rfl) ?_
      refine GOps.take rfl rfl ?_ ?_
      · simp; done
      refine GOps.r rfl rfl rfl rfl (grd_indexAddrA1 tab_is rfl rfl rfl rfl rfl ?_) ?_
      · simp; done
      refine GOps.take rfl rfl ?_ ?_
      · simp; done
      focus
        refine GOps.r rfl rfl rfl rfl (grd_load1 (b := ?_) (v := ?_) tab_is rfl rfl rfl rfl ?_ ?_) ?_
        rotate_left 2
        refine Hp.at_put_eq ?_
        · simp; done
        · rfl
      refine GOps.take rfl rfl ?_ ?_
      · simp; done
      refine GOps.r rfl rfl rfl rfl (grd_gtr rfl rfl rfl) ?_
      refine GOps.r rfl rfl rfl rfl (grd_pick_t rfl rfl ?_ rfl) ?_
      · exact decide_eq_true (by omega)
      refine GOps.nil ?_
      refine GWP.cond_f rfl ?_ ?_
      · exact decide_eq_false (by omega)
      refine GWP.skip ?_
      refine GWP.seq ?_
      refine GWP.draw [.reads [0, 1, 2, 3, 4, 6], .write 5, .reads [7, 8, 9]] false [List.length Hxf2] (by kernel_rfl) (by kernel_rfl) (by kernel_rfl) (by kernel_rfl) ?_ ?_
      · simp; done
      refine GPcs.reads (by simp only [List.filterMap_cons, List.filterMap_nil, List.getElem?_toArray, List.getElem?_cons_succ, List.getElem?_cons_zero]; rfl) ?_
      refine GQ.r rfl rfl rfl rfl (grd_move rfl rfl) ?_ ?_
      · refine .inr ?_; simp
      refine GQ.r rfl rfl rfl rfl (grd_move rfl rfl) ?_ ?_
      · refine .inr ?_; simp
      refine GQ.r rfl rfl rfl rfl (grd_eql rfl rfl rfl) ?_ ?_
      · refine .inr ?_; simp
      refine GQ.r rfl rfl rfl rfl (grd_move rfl rfl) ?_ ?_
      · refine .inr ?_; simp
      refine GQ.take rfl rfl ?_ ?_
      · simp; done
      refine GQ.r rfl rfl rfl rfl (grd_move rfl rfl) ?_ ?_
      · refine .inr ?_; simp
      refine GQ.take rfl rfl ?_ ?_
      · simp; done
      focus
        refine GQ.r rfl rfl rfl rfl (grd_loadNK (b := ?_) (cs := ?_) tab_is rfl rfl rfl rfl ?_ ?_ ?_) ?_ ?_
        rotate_left 2
        refine Hp.at_put_eq ?_
        · simp; done
        · exact Nat.le_of_ble_eq_true rfl
        · simp [Value.cells]; rfl
        · refine .inr ?_; simp
      refine GQ.nil ?_
      refine GPcs.write true [List.length Hxf2] rfl rfl ?_ rfl rfl (gopf_call rfl Try.call11 rfl ?_ (hP _)) rfl ?_ ?_ ?_ ?_
      · simp; done
      · intro _ h; cases h; done
      · intro _ h; cases h; done
      focus
        refine List.forall_mem_cons.2 ⟨⟨⟨?_, ?_⟩, ?_⟩, ?_⟩
        rotate_left 1
        refine Hp.at_put_eq ?_
        · simp; done
        · intro h; cases h; done
        · intro _ h; cases h; done
      · simp; done
      rintro _ Hxf3 ⟨rfl, xf3⟩
      have xf3l := HExt.len xf3; try simp at xf3l
      refine ⟨?_, ?_⟩
      · simp; omega
      refine GPcs.reads (by simp only [List.filterMap_cons, List.filterMap_nil, List.getElem?_toArray, List.getElem?_cons_succ, List.getElem?_cons_zero]; rfl) ?_
      refine GQ.take rfl rfl ?_ ?_
      · simp; done
      focus
        refine GQ.r rfl rfl rfl rfl (grd_aeqlK (b := ?_) tab_is rfl rfl rfl rfl rfl rfl ?_ ?_ ?_) ?_ ?_
        rotate_left 1
        · rfl
        · rfl
        · simp [lEq, cEq]; rfl
        · exact .inl rfl
      refine GQ.r rfl rfl rfl rfl (grd_pick_t rfl rfl ?_ rfl) ?_ ?_
      · exact decide_eq_true (by omega)
      · exact .inl rfl
      refine GQ.r rfl rfl rfl rfl (grd_assign rfl rfl) ?_ ?_
      · exact .inl rfl
      refine GQ.nil ?_
      refine GPcs.nil ?_
      refine GWP.ret ?_
      refine ⟨_, .one rfl, ?_⟩
      · rfl
  ·
    refine GCalls.body tab_is Try.func3 rfl Try.results3 Try.ntmps3 (by simp) ?_ ?_
    · first | (intro _ h; cases h; done) | (simp; done) | (simp; omega) | (intro i hi; simp at hi; rcases hi with rfl | rfl <;> omega) | (intro i hi; simp at hi; rcases hi with rfl | rfl | rfl <;> omega)
    focus
      refine GWP.seq ?_
      refine GWP.region ?_
      refine GOps.r rfl rfl rfl rfl (grd_assign rfl rfl) ?_
      refine GOps.nil ?_
      refine GWP.seq ?_
      refine GWP.seq ?_
      refine GWP.region ?_
      refine GOps.w1 rfl rfl rfl rfl (gop_call0 (f := 8) rfl Try.call8 ?_ (g_lives15 _)) ?_
      · intro _ h; cases h; done
      refine GOps.r rfl rfl rfl rfl (grd_not rfl rfl) ?_
      refine GOps.r rfl rfl rfl rfl (grd_move rfl rfl) ?_
      refine GOps.take rfl rfl ?_ ?_
      · simp; done
      refine GOps.r rfl rfl rfl rfl (grd_move rfl rfl) ?_
      refine GOps.take rfl rfl ?_ ?_
      · simp; done
      refine GOps.r rfl rfl rfl rfl (grd_len tab_is rfl rfl rfl rfl rfl) ?_
      refine GOps.take rfl rfl ?_ ?_
      · simp; done
      refine GOps.r rfl rfl rfl rfl (grd_gtr rfl rfl rfl) ?_
      refine GOps.r rfl rfl rfl rfl (grd_pick_f rfl rfl ?_ rfl) ?_
      · simp; done
      refine GOps.nil ?_
      refine GWP.cond_f rfl ?_ ?_
      · exact decide_eq_false (by omega)
      refine GWP.skip ?_
      refine GWP.seq ?_
      refine GWP.region ?_
      refine GOps.r rfl rfl rfl rfl (grd_move rfl rfl) ?_
      refine GOps.w rfl rfl rfl rfl (gop_call rfl Try.call9 rfl ?_ (hS _ _ _ _ ?_ ?_)) ?_
      · intro _ h; cases h; done
      · assumption
      · omega
      rintro _ Hxg1 ⟨rfl, xg1⟩
      have xg1l := HExt.len xg1; try simp at xg1l
      refine GOps.r rfl rfl rfl rfl (grd_move rfl rfl) ?_
      focus
        refine GOps.r rfl rfl rfl rfl (grd_extract (v := ?_) rfl rfl ?_) ?_
        rotate_left 1
        · simp only [List.getElem?_toArray, List.getElem?_cons_zero, List.getElem?_cons_succ]; rfl
      focus
        refine GOps.r rfl rfl rfl rfl (grd_extract (v := ?_) rfl rfl ?_) ?_
        rotate_left 1
        · simp only [List.getElem?_toArray, List.getElem?_cons_zero, List.getElem?_cons_succ]; rfl
      refine GOps.r rfl rfl rfl rfl (grd_assign rfl rfl) ?_
      refine GOps.r rfl rfl rfl rfl (grd_assign rfl rfl) ?_
      refine GOps.nil ?_
      refine GWP.seq ?_
      refine GWP.region ?_
      refine GOps.r rfl rfl rfl rfl (grd_move rfl rfl) ?_
      refine GOps.w rfl rfl rfl rfl (gop_call rfl Try.call10 rfl ?_ (hR _ _ _ _ ?_ ?_)) ?_
      · intro _ h; cases h; done
      refine BS.ext (by assumption) ?_
      · assumption
      · omega
      rintro _ Hxg2 ⟨rfl, xg2⟩
      have xg2l := HExt.len xg2; try simp at xg2l
      refine GOps.r rfl rfl rfl rfl (grd_move rfl rfl) ?_
      focus
        refine GOps.r rfl rfl rfl rfl (grd_extract (v := ?_) rfl rfl ?_) ?_
        rotate_left 1
        · simp only [List.getElem?_toArray, List.getElem?_cons_zero, List.getElem?_cons_succ]; rfl
      focus
        refine GOps.r rfl rfl rfl rfl (grd_extract (v := ?_) rfl rfl ?_) ?_
        rotate_left 1
        · simp only [List.getElem?_toArray, List.getElem?_cons_zero, List.getElem?_cons_succ]; rfl
      focus
        refine GOps.w1 rfl rfl rfl rfl (gop_alloc' (id := ?_) ?_ tab_is rfl rfl ?_) ?_
        rotate_left 1
        · rfl
        · decide
      focus
        refine GOps.s rfl rfl rfl (gop_storeC (b := ?_) (cs := ?_) tab_is rfl rfl ?_ rfl rfl ?_ ?_ ?_ ?_ ?_ ?_) ?_
        rotate_left 2
        · rfl
        · rfl
        · exact Hp.at_push_eq
        · rfl
        · exact Nat.le_of_ble_eq_true rfl
        · exact .inr (by simp; omega)
        · simp [splice, Value.cells]; rfl
      refine GOps.r rfl rfl rfl rfl (grd_assign rfl rfl) ?_
      refine GOps.nil ?_
      refine GWP.seq ?_
      refine GWP.seq ?_
      refine GWP.region ?_
      refine GOps.r rfl rfl rfl rfl (grd_fieldAddr tab_is rfl rfl rfl rfl rfl) ?_
      focus
        refine GOps.r rfl rfl rfl rfl (grd_load1 (b := ?_) (v := ?_) tab_is rfl rfl rfl rfl ?_ ?_) ?_
        rotate_left 2
        refine Hp.at_put_eq ?_
        · simp; done
        · rfl
      refine GOps.r rfl rfl rfl rfl (grd_eql rfl rfl rfl) ?_
      refine GOps.r rfl rfl rfl rfl (grd_move rfl rfl) ?_
      refine GOps.take rfl rfl ?_ ?_
      · simp; done
      refine GOps.r rfl rfl rfl rfl (grd_fieldAddr tab_is rfl rfl rfl rfl rfl) ?_
      refine GOps.take rfl rfl ?_ ?_
      · simp; done
      refine GOps.r rfl rfl rfl rfl (grd_indexAddrA1 tab_is rfl rfl rfl rfl rfl ?_) ?_
      · simp; done
      refine GOps.take rfl rfl ?_ ?_
      · simp; done
      focus
        refine GOps.r rfl rfl rfl rfl (grd_load1 (b := ?_) (v := ?_) tab_is rfl rfl rfl rfl ?_ ?_) ?_
        rotate_left 2
        refine Hp.at_put_eq ?_
        · simp; done
        · rfl
      refine GOps.take rfl rfl ?_ ?_
      · simp; done
      refine GOps.r rfl rfl rfl rfl (grd_gtr rfl rfl rfl) ?_
      refine GOps.r rfl rfl rfl rfl (grd_pick_t rfl rfl ?_ rfl) ?_
      · exact decide_eq_true (by omega)
      refine GOps.nil ?_
      refine GWP.cond_t rfl ?_ ?_
      · exact decide_eq_true (by omega)
      refine GWP.seq ?_
      refine GWP.region ?_
      refine GOps.r rfl rfl rfl rfl (grd_move rfl rfl) ?_
      refine GOps.r rfl rfl rfl rfl (grd_eql rfl rfl rfl) ?_
      refine GOps.r rfl rfl rfl rfl (grd_move rfl rfl) ?_
      refine GOps.take rfl rfl ?_ ?_
      · simp; done
      refine GOps.r rfl rfl rfl rfl (grd_move rfl rfl) ?_
      refine GOps.take rfl rfl ?_ ?_
      · simp; done
      refine GOps.r rfl rfl rfl rfl (grd_ieq0 tab_is rfl rfl rfl rfl) ?_
      refine GOps.r rfl rfl rfl rfl (grd_pick_t rfl rfl ?_ rfl) ?_
      · exact decide_eq_true (by omega)
      refine GOps.r rfl rfl rfl rfl (grd_assign rfl rfl) ?_
      refine GOps.nil ?_
      refine GWP.ret ?_
      refine ⟨_, .one rfl, ?_⟩
      · rfl
theorem segmentReads_walk (A : Option Addr) (n c : Nat) (l : List UInt8) (hl : l.length = c) (hn : n ≤ c) (hm : c ≤ maxLen) (hA : A = none → n = 0 ∧ c = 0) (W : World) (hr : Rd W W.heap.size A (vb l)) (h0 : ∃ (g : Nat) (rs : Array Value) (t : TypeId) (fz : Nat × Nat), W.heap[g]? = some (Obj.cells rs t fz)) :
    Calls Try.prog 3 #[.slice A n c] W fun e w' => e = .returned (.bool true) ∧ Below W.heap.size W w' := by
  obtain ⟨μ1, H1, p1, s1, ro1, x1, k1, b1, v1⟩ := (SimH.nothing W).bytes Ro.nil h0 hn hm hA hr hl
  refine ((g_segmentReads H1 p1 n c _ b1).enter s1 (.cons v1 .nil) (R := fun u => u = .bool true) (fun v hv => by rw [hv]; rfl)).mono ?_
  rintro e w' ⟨v, rfl, rfl, q⟩
  exact ⟨rfl, q⟩
end Go.Proofs.Ytjlimdiimdihfaa
