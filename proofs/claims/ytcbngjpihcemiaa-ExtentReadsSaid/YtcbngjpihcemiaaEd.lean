/- Of any bytes the set that comes, or what is wrong: the law. -/
import Derived.Test.YtcbngjpihcemiaaEc
import Derived.Test.YtcbngjpihcemiaaMz
import Derived.Test.YtcbngjpihcemiaaAr
namespace Go.Proofs.Ytcbngjpihcemiaa
open Go.RowKit Go.ChangeShapes Go.WideShapes Go.ChangeAt

theorem lives08 : comesTo ft noS tab 100000 51 [] (.bool true) = true := by kernel_rfl
set_option maxHeartbeats 4000000 in
set_option maxRecDepth 100000 in
set_option linter.unusedSimpArgs false in
theorem g_lives08 (H : Hp) : GCalls Try.prog 51 [] [] H (fun v H' => v = .bool true ∧ H' = H) := comesTo_any tab_is mix ft_ok (noS_ok _) lives08 H
theorem runQ_nil {T : TypeId} {F : List Nat} {H : Hp} {e : Nat} {v : Value} {H' : Hp} (h : runQ T F H (e, []) v H') : v = .tuple #[.slice none 0 0, .int .i64 (e : Int)] ∧ HExt F H H' := by
  obtain ⟨⟨o, rfl, hI⟩, x⟩ := h
  cases o with
  | none => exact ⟨rfl, x⟩
  | some id => exact absurd hI.1 (Nat.lt_irrefl 0)
theorem runQ_cons {T : TypeId} {F : List Nat} {H : Hp} {e : Nat} {l : List (Nat × Nat)} (hl : 0 < l.length) {v : Value} {H' : Hp} (h : runQ T F H (e, l) v H') : (∃ id, v = .tuple #[.slice (some ⟨id, 0, none⟩) l.length capU, .int .i64 (e : Int)] ∧ H.length ≤ id ∧ H'.at id = some ⟨T, 2, runV l, true⟩) ∧ HExt F H H' := by
  obtain ⟨⟨o, rfl, hI⟩, x⟩ := h
  cases o with
  | none =>
    have hI2 : l = [] := hI
    subst hI2
    exact absurd hl (Nat.lt_irrefl 0)
  | some id => exact ⟨⟨id, rfl, hI.2⟩, x⟩
theorem runsO_len (K : Nat) : ∀ (n : Nat) (s : RdS) (a : Nat) (acc : List (Nat × Nat)), (runsO K n s a acc).2.length ≤ acc.length + n
  | 0, s, a, acc => by
    rw [runsO]
    split
    · exact Nat.zero_le _
    · exact Nat.le_refl _
  | n + 1, s, a, acc => by
    rw [runsO]
    split
    · exact Nat.zero_le _
    · split
      · exact Nat.zero_le _
      · refine Nat.le_trans (runsO_len K n _ _ _) ?_
        rw [List.length_append, List.length_singleton]
        omega
theorem tmod_in (m : Int) : -100000 < m.tmod 100000 ∧ m.tmod 100000 < 100000 := by
  have h := Int.tmod_lt_of_pos m (show (0 : Int) < 100000 by decide)
  have h2 := Int.tmod_lt_of_pos (-m) (show (0 : Int) < 100000 by decide)
  rw [Int.neg_tmod] at h2
  omega
set_option maxHeartbeats 4000000 in
set_option maxRecDepth 100000 in
set_option linter.unusedSimpArgs false in
theorem g_extentReads (H : Hp) (p : Option Addr) (n c : Nat) (L : List UInt8) (hb : BS H (.slice p n c) L) (m : Int) : GCalls Try.prog 9 [.slice p n c, .int .i64 m] [] H fun v _ => v = .bool true := by
  by_cases hn : 1000 < n
  ·
    refine GCalls.body tab_is Try.func9 rfl Try.results9 Try.ntmps9 (by simp) ?_ ?_
    · first | (intro _ h; cases h; done) | (simp; done) | (simp; omega) | (intro i hi; simp at hi; rcases hi with rfl | rfl <;> omega) | (intro i hi; simp at hi; rcases hi with rfl | rfl | rfl <;> omega)
    focus
      refine GWP.seq ?_
      refine GWP.region ?_
      refine GOps.r rfl rfl rfl rfl (grd_assign rfl rfl) ?_
      refine GOps.nil ?_
      refine GWP.seq ?_
      refine GWP.seq ?_
      refine GWP.region ?_
      refine GOps.w1 rfl rfl rfl rfl (gop_call0 (f := 51) rfl Try.call51 ?_ (g_lives08 _)) ?_
      · intro _ h; cases h; done
      refine GOps.r rfl rfl rfl rfl (grd_not rfl rfl) ?_
      refine GOps.r rfl rfl rfl rfl (grd_move rfl rfl) ?_
      refine GOps.take rfl rfl ?_ ?_
      · simp; done
      refine GOps.r rfl rfl rfl rfl (grd_move rfl rfl) ?_
      refine GOps.take rfl rfl ?_ ?_
      · simp; done
      refine GOps.r rfl rfl rfl rfl (grd_len tab_is rfl rfl rfl rfl rfl) ?_
      refine GOps.take rfl rfl ?_ ?_
      · simp; done
      refine GOps.r rfl rfl rfl rfl (grd_gtr rfl rfl rfl) ?_
      refine GOps.r rfl rfl rfl rfl (grd_pick_f rfl rfl ?_ rfl) ?_
      · simp; done
      refine GOps.nil ?_
      refine GWP.cond_t rfl ?_ ?_
      · exact decide_eq_true (by omega)
      refine GWP.seq ?_
      refine GWP.region ?_
      refine GOps.w1 rfl rfl rfl rfl (gop_call0 (f := 51) rfl Try.call51 ?_ (g_lives08 _)) ?_
      · intro _ h; cases h; done
      refine GOps.r rfl rfl rfl rfl (grd_assign rfl rfl) ?_
      refine GOps.nil ?_
      refine GWP.ret ?_
      refine ⟨_, .one rfl, ?_⟩
      · rfl
  have hk := tmod_in m
  have hln := hb.len
  subst hln
  obtain ⟨K, hK⟩ : ∃ K : Nat, K = (m.tmod 100000).toNat := ⟨_, rfl⟩
  obtain ⟨r0, h0⟩ : ∃ r, RdS.number ⟨L, 0⟩ K = r := ⟨_, rfl⟩
  have t0 := numE_le h0
  obtain ⟨R, hR⟩ : ∃ R, runsO K r0.1 r0.2 0 [] = R := ⟨_, rfl⟩
  have hlen := runsO_len K r0.1 r0.2 0 []
  rw [hR] at hlen
  obtain ⟨e, l⟩ := R
  simp only [List.length_nil] at hlen
  have hS := fun H g p c hr => g_eread H g p c ⟨L, 0⟩ hr _ K hK hk r0 h0 _ hR
  have hT := fun H g p c hr => g_rruns H g p c ⟨L, 0⟩ hr _ K hK hk r0 h0 _ hR
  rcases Nat.eq_zero_or_pos l.length with hz | hz
  · obtain rfl : l = [] := List.eq_nil_of_length_eq_zero hz
    have hS2 := fun H g p c hr => (hS H g p c hr).mono fun v H' h => runQ_nil h
    have hT2 := fun H g p c hr => (hT H g p c hr).mono fun v H' h => runQ_nil h
    clear hS hT
    refine GCalls.body tab_is Try.func9 rfl Try.results9 Try.ntmps9 (by simp) ?_ ?_
    · first | (intro _ h; cases h; done) | (simp; done) | (simp; omega) | (intro i hi; simp at hi; rcases hi with rfl | rfl <;> omega) | (intro i hi; simp at hi; rcases hi with rfl | rfl | rfl <;> omega)
    focus
      refine GWP.seq ?_
      refine GWP.region ?_
      refine GOps.r rfl rfl rfl rfl (grd_assign rfl rfl) ?_
      refine GOps.nil ?_
      refine GWP.seq ?_
      refine GWP.seq ?_
      refine GWP.region ?_
      refine GOps.w1 rfl rfl rfl rfl (gop_call0 (f := 51) rfl Try.call51 ?_ (g_lives08 _)) ?_
      · intro _ h; cases h; done
      refine GOps.r rfl rfl rfl rfl (grd_not rfl rfl) ?_
      refine GOps.r rfl rfl rfl rfl (grd_move rfl rfl) ?_
      refine GOps.take rfl rfl ?_ ?_
      · simp; done
      refine GOps.r rfl rfl rfl rfl (grd_move rfl rfl) ?_
      refine GOps.take rfl rfl ?_ ?_
      · simp; done
      refine GOps.r rfl rfl rfl rfl (grd_len tab_is rfl rfl rfl rfl rfl) ?_
      refine GOps.take rfl rfl ?_ ?_
      · simp; done
      refine GOps.r rfl rfl rfl rfl (grd_gtr rfl rfl rfl) ?_
      refine GOps.r rfl rfl rfl rfl (grd_pick_f rfl rfl ?_ rfl) ?_
      · simp; done
      refine GOps.nil ?_
      refine GWP.cond_f rfl ?_ ?_
      · exact decide_eq_false (by omega)
      refine GWP.skip ?_
      refine GWP.seq ?_
      refine GWP.region ?_
      refine GOps.r rfl rfl rfl rfl (grd_move rfl rfl) ?_
      refine GOps.r rfl rfl rfl rfl (grd_rem rfl rfl rfl ?_) ?_
      · omega
      refine GOps.r rfl rfl rfl rfl (grd_assign rfl rfl) ?_
      refine GOps.nil ?_
      refine GWP.seq ?_
      refine GWP.region ?_
      refine GOps.r rfl rfl rfl rfl (grd_move rfl rfl) ?_
      focus
        refine GOps.w rfl rfl rfl rfl (gop_call rfl Try.call63 rfl ?_ (g_vopen _ _ _ _ ?_ ?_ ?_)) ?_
        · intro _ h; cases h; done
        rotate_left 1
        · assumption
        · omega
      rintro _ Hxb6 ⟨⟨gb1, pb2, cb3, rfl, lb4, rb5⟩, xb6⟩
      have xb6l := HExt.len xb6; try simp at xb6l
      have rb5g := RG.hg rb5; unfold rdBlk at rb5g; have rb5q := Hp.at_lt rb5g
      refine GOps.r rfl rfl rfl rfl (grd_move rfl rfl) ?_
      focus
        refine GOps.w rfl rfl rfl rfl (gop_call rfl Try.call62 rfl ?_ (hS2 _ _ ?_ ?_ ?_)) ?_
        · simp [Ctx.may]; omega
        rotate_left 2
        · assumption
      rintro _ Hxb7 ⟨rfl, xb7⟩
      have xb7l := HExt.len xb7; try simp at xb7l
      refine GOps.r rfl rfl rfl rfl (grd_move rfl rfl) ?_
      focus
        refine GOps.r rfl rfl rfl rfl (grd_extract (v := ?_) rfl rfl ?_) ?_
        rotate_left 1
        · simp only [List.getElem?_toArray, List.getElem?_cons_zero, List.getElem?_cons_succ]; rfl
      focus
        refine GOps.r rfl rfl rfl rfl (grd_extract (v := ?_) rfl rfl ?_) ?_
        rotate_left 1
        · simp only [List.getElem?_toArray, List.getElem?_cons_zero, List.getElem?_cons_succ]; rfl
      refine GOps.r rfl rfl rfl rfl (grd_assign rfl rfl) ?_
      refine GOps.r rfl rfl rfl rfl (grd_assign rfl rfl) ?_
      refine GOps.nil ?_
      refine GWP.seq ?_
      refine GWP.region ?_
      refine GOps.r rfl rfl rfl rfl (grd_move rfl rfl) ?_
      focus
        refine GOps.r rfl rfl rfl rfl (grd_build (cs := ?_) tab_is rfl rfl rfl ?_ rfl ?_) ?_
        rotate_left 1
        · decide
        · simp [gfill, gsets, Value.cells]; rfl
      focus
        refine GOps.w1 rfl rfl rfl rfl (gop_box' (id := ?_) ?_ rfl rfl rfl) ?_
        rotate_left 1
        · rfl
      refine GOps.r rfl rfl rfl rfl (grd_move rfl rfl) ?_
      focus
        refine GOps.w rfl rfl rfl rfl (gop_call rfl Try.call64 rfl ?_ (hT2 _ _ ?_ ?_ ?_)) ?_
        · simp [Ctx.may]; omega
        rotate_left 2
        refine rg_mk (b := ?_) ?_ ?_ ?_ ?_
        rotate_left 1
        · exact Hp.at_push_eq
        · rfl
        focus
          refine BS.ext (by assumption) ?_
          refine HExt.push ?_
          refine HExt.tr ?_ (by assumption) ?_
          · assumption
          · simp; omega
        · simp only; omega
      rintro _ Hxb8 ⟨rfl, xb8⟩
      have xb8l := HExt.len xb8; try simp at xb8l
      refine GOps.r rfl rfl rfl rfl (grd_move rfl rfl) ?_
      focus
        refine GOps.r rfl rfl rfl rfl (grd_extract (v := ?_) rfl rfl ?_) ?_
        rotate_left 1
        · simp only [List.getElem?_toArray, List.getElem?_cons_zero, List.getElem?_cons_succ]; rfl
      focus
        refine GOps.r rfl rfl rfl rfl (grd_extract (v := ?_) rfl rfl ?_) ?_
        rotate_left 1
        · simp only [List.getElem?_toArray, List.getElem?_cons_zero, List.getElem?_cons_succ]; rfl
      refine GOps.r rfl rfl rfl rfl (grd_assign rfl rfl) ?_
      refine GOps.r rfl rfl rfl rfl (grd_assign rfl rfl) ?_
      refine GOps.nil ?_
      refine GWP.seq ?_
      refine GWP.seq ?_
      refine GWP.region ?_
      refine GOps.r rfl rfl rfl rfl (grd_move rfl rfl) ?_
      refine GOps.r rfl rfl rfl rfl (grd_move rfl rfl) ?_
      refine GOps.r rfl rfl rfl rfl (grd_neq rfl rfl rfl) ?_
      refine GOps.r rfl rfl rfl rfl (grd_move rfl rfl) ?_
      refine GOps.take rfl rfl ?_ ?_
      · simp; done
      refine GOps.r rfl rfl rfl rfl (grd_move rfl rfl) ?_
      refine GOps.take rfl rfl ?_ ?_
      · simp; done
      refine GOps.r rfl rfl rfl rfl (grd_len tab_is rfl rfl rfl rfl rfl) ?_
      refine GOps.take rfl rfl ?_ ?_
      · simp; done
      refine GOps.r rfl rfl rfl rfl (grd_move rfl rfl) ?_
      refine GOps.take rfl rfl ?_ ?_
      · simp; done
      refine GOps.r rfl rfl rfl rfl (grd_len tab_is rfl rfl rfl rfl rfl) ?_
      refine GOps.take rfl rfl ?_ ?_
      · simp; done
      refine GOps.r rfl rfl rfl rfl (grd_neq rfl rfl rfl) ?_
      refine GOps.r rfl rfl rfl rfl (grd_pick_f rfl rfl ?_ rfl) ?_
      · exact decide_eq_false (by omega)
      refine GOps.nil ?_
      refine GWP.cond_f rfl ?_ ?_
      · exact decide_eq_false (by omega)
      refine GWP.skip ?_
      refine GWP.seq ?_
      refine GWP.seq ?_
      refine GWP.region ?_
      refine GOps.r rfl rfl rfl rfl (grd_move rfl rfl) ?_
      refine GOps.r rfl rfl rfl rfl (grd_len tab_is rfl rfl rfl rfl rfl) ?_
      refine GOps.r rfl rfl rfl rfl (grd_move rfl rfl) ?_
      refine GOps.nil ?_
      refine GWP.block ?_
      refine GWP.loopN 2 ?_
      refine GRounds.step ?_
      refine GWP.seq ?_
      refine GWP.region ?_
      refine GOps.r rfl rfl rfl rfl (grd_lss rfl rfl rfl) ?_
      refine GOps.nil ?_
      refine GWP.seq ?_
      refine GWP.cond_f rfl ?_ ?_
      · exact decide_eq_false (by omega)
      refine GWP.exit ?_
      refine GWP.seq ?_
      refine GWP.region ?_
      refine GOps.r rfl rfl rfl rfl (grd_assign rfl rfl) ?_
      refine GOps.nil ?_
      refine GWP.ret ?_
      refine ⟨_, .one rfl, ?_⟩
      · rfl
  · have hS2 := fun H g p c hr => (hS H g p c hr).mono fun v H' h => runQ_cons hz h
    have hT2 := fun H g p c hr => (hT H g p c hr).mono fun v H' h => runQ_cons hz h
    clear hS hT
    refine GCalls.body tab_is Try.func9 rfl Try.results9 Try.ntmps9 (by simp) ?_ ?_
    · first | (intro _ h; cases h; done) | (simp; done) | (simp; omega) | (intro i hi; simp at hi; rcases hi with rfl | rfl <;> omega) | (intro i hi; simp at hi; rcases hi with rfl | rfl | rfl <;> omega)
    focus
      refine GWP.seq ?_
      refine GWP.region ?_
      refine GOps.r rfl rfl rfl rfl (grd_assign rfl rfl) ?_
      refine GOps.nil ?_
      refine GWP.seq ?_
      refine GWP.seq ?_
      refine GWP.region ?_
      refine GOps.w1 rfl rfl rfl rfl (gop_call0 (f := 51) rfl Try.call51 ?_ (g_lives08 _)) ?_
      · intro _ h; cases h; done
      refine GOps.r rfl rfl rfl rfl (grd_not rfl rfl) ?_
      refine GOps.r rfl rfl rfl rfl (grd_move rfl rfl) ?_
      refine GOps.take rfl rfl ?_ ?_
      · simp; done
      refine GOps.r rfl rfl rfl rfl (grd_move rfl rfl) ?_
      refine GOps.take rfl rfl ?_ ?_
      · simp; done
      refine GOps.r rfl rfl rfl rfl (grd_len tab_is rfl rfl rfl rfl rfl) ?_
      refine GOps.take rfl rfl ?_ ?_
      · simp; done
      refine GOps.r rfl rfl rfl rfl (grd_gtr rfl rfl rfl) ?_
      refine GOps.r rfl rfl rfl rfl (grd_pick_f rfl rfl ?_ rfl) ?_
      · simp; done
      refine GOps.nil ?_
      refine GWP.cond_f rfl ?_ ?_
      · exact decide_eq_false (by omega)
      refine GWP.skip ?_
      refine GWP.seq ?_
      refine GWP.region ?_
      refine GOps.r rfl rfl rfl rfl (grd_move rfl rfl) ?_
      refine GOps.r rfl rfl rfl rfl (grd_rem rfl rfl rfl ?_) ?_
      · omega
      refine GOps.r rfl rfl rfl rfl (grd_assign rfl rfl) ?_
      refine GOps.nil ?_
      refine GWP.seq ?_
      refine GWP.region ?_
      refine GOps.r rfl rfl rfl rfl (grd_move rfl rfl) ?_
      focus
        refine GOps.w rfl rfl rfl rfl (gop_call rfl Try.call63 rfl ?_ (g_vopen _ _ _ _ ?_ ?_ ?_)) ?_
        · intro _ h; cases h; done
        rotate_left 1
        · assumption
        · omega
      rintro _ Hxd6 ⟨⟨gd1, pd2, cd3, rfl, ld4, rd5⟩, xd6⟩
      have xd6l := HExt.len xd6; try simp at xd6l
      have rd5g := RG.hg rd5; unfold rdBlk at rd5g; have rd5q := Hp.at_lt rd5g
      refine GOps.r rfl rfl rfl rfl (grd_move rfl rfl) ?_
      focus
        refine GOps.w rfl rfl rfl rfl (gop_call rfl Try.call62 rfl ?_ (hS2 _ _ ?_ ?_ ?_)) ?_
        · simp [Ctx.may]; omega
        rotate_left 2
        · assumption
      rintro _ Hxd10 ⟨⟨id7, rfl, ld8, hd9⟩, xd10⟩
      have xd10l := HExt.len xd10; try simp at xd10l
      refine GOps.r rfl rfl rfl rfl (grd_move rfl rfl) ?_
      focus
        refine GOps.r rfl rfl rfl rfl (grd_extract (v := ?_) rfl rfl ?_) ?_
        rotate_left 1
        · simp only [List.getElem?_toArray, List.getElem?_cons_zero, List.getElem?_cons_succ]; rfl
      focus
        refine GOps.r rfl rfl rfl rfl (grd_extract (v := ?_) rfl rfl ?_) ?_
        rotate_left 1
        · simp only [List.getElem?_toArray, List.getElem?_cons_zero, List.getElem?_cons_succ]; rfl
      refine GOps.r rfl rfl rfl rfl (grd_assign rfl rfl) ?_
      refine GOps.r rfl rfl rfl rfl (grd_assign rfl rfl) ?_
      refine GOps.nil ?_
      refine GWP.seq ?_
      refine GWP.region ?_
      refine GOps.r rfl rfl rfl rfl (grd_move rfl rfl) ?_
      focus
        refine GOps.r rfl rfl rfl rfl (grd_build (cs := ?_) tab_is rfl rfl rfl ?_ rfl ?_) ?_
        rotate_left 1
        · decide
        · simp [gfill, gsets, Value.cells]; rfl
      focus
        refine GOps.w1 rfl rfl rfl rfl (gop_box' (id := ?_) ?_ rfl rfl rfl) ?_
        rotate_left 1
        · rfl
      refine GOps.r rfl rfl rfl rfl (grd_move rfl rfl) ?_
      focus
        refine GOps.w rfl rfl rfl rfl (gop_call rfl Try.call64 rfl ?_ (hT2 _ _ ?_ ?_ ?_)) ?_
        · simp [Ctx.may]; omega
        rotate_left 2
        refine rg_mk (b := ?_) ?_ ?_ ?_ ?_
        rotate_left 1
        · exact Hp.at_push_eq
        · rfl
        focus
          refine BS.ext (by assumption) ?_
          refine HExt.push ?_
          refine HExt.tr ?_ (by assumption) ?_
          · assumption
          · simp; omega
        · simp only; omega
      rintro _ Hxd14 ⟨⟨id11, rfl, ld12, hd13⟩, xd14⟩
      simp at ld12
      have xd14l := HExt.len xd14; try simp at xd14l
      refine GOps.r rfl rfl rfl rfl (grd_move rfl rfl) ?_
      focus
        refine GOps.r rfl rfl rfl rfl (grd_extract (v := ?_) rfl rfl ?_) ?_
        rotate_left 1
        · simp only [List.getElem?_toArray, List.getElem?_cons_zero, List.getElem?_cons_succ]; rfl
      focus
        refine GOps.r rfl rfl rfl rfl (grd_extract (v := ?_) rfl rfl ?_) ?_
        rotate_left 1
        · simp only [List.getElem?_toArray, List.getElem?_cons_zero, List.getElem?_cons_succ]; rfl
      refine GOps.r rfl rfl rfl rfl (grd_assign rfl rfl) ?_
      refine GOps.r rfl rfl rfl rfl (grd_assign rfl rfl) ?_
      refine GOps.nil ?_
      refine GWP.seq ?_
      refine GWP.seq ?_
      refine GWP.region ?_
      refine GOps.r rfl rfl rfl rfl (grd_move rfl rfl) ?_
      refine GOps.r rfl rfl rfl rfl (grd_move rfl rfl) ?_
      refine GOps.r rfl rfl rfl rfl (grd_neq rfl rfl rfl) ?_
      refine GOps.r rfl rfl rfl rfl (grd_move rfl rfl) ?_
      refine GOps.take rfl rfl ?_ ?_
      · simp; done
      refine GOps.r rfl rfl rfl rfl (grd_move rfl rfl) ?_
      refine GOps.take rfl rfl ?_ ?_
      · simp; done
      refine GOps.r rfl rfl rfl rfl (grd_len tab_is rfl rfl rfl rfl rfl) ?_
      refine GOps.take rfl rfl ?_ ?_
      · simp; done
      refine GOps.r rfl rfl rfl rfl (grd_move rfl rfl) ?_
      refine GOps.take rfl rfl ?_ ?_
      · simp; done
      refine GOps.r rfl rfl rfl rfl (grd_len tab_is rfl rfl rfl rfl rfl) ?_
      refine GOps.take rfl rfl ?_ ?_
      · simp; done
      refine GOps.r rfl rfl rfl rfl (grd_neq rfl rfl rfl) ?_
      refine GOps.r rfl rfl rfl rfl (grd_pick_f rfl rfl ?_ rfl) ?_
      · exact decide_eq_false (by omega)
      refine GOps.nil ?_
      refine GWP.cond_f rfl ?_ ?_
      · exact decide_eq_false (by omega)
      refine GWP.skip ?_
      refine GWP.seq ?_
      refine GWP.seq ?_
      refine GWP.region ?_
      refine GOps.r rfl rfl rfl rfl (grd_move rfl rfl) ?_
      refine GOps.r rfl rfl rfl rfl (grd_len tab_is rfl rfl rfl rfl rfl) ?_
      refine GOps.r rfl rfl rfl rfl (grd_move rfl rfl) ?_
      refine GOps.nil ?_
      refine GWP.block ?_
    refine GWP.loop (α := Nat) (fun i => [(47, .slice (some ⟨id7, 0, none⟩) l.length capU), (48, .int .i64 (l.length : Int)), (49, .int .i64 (i : Int)), (8, .slice (some ⟨id11, 0, none⟩) l.length capU)]) (fun i H' => i ≤ l.length ∧ H'.at id7 = some ⟨121, 2, runV l, true⟩ ∧ H'.at id11 = some ⟨122, 2, runV l, true⟩) (fun i => l.length - i) 0 ?_ ⟨Nat.zero_le _, ?_, ?_⟩ ?_
    ·
      repeat (first | exact Env.sub_nil | refine Env.sub_cons rfl ?_ | (refine Env.sub_cons (congrArg some ?_) ?_; (· first | rfl | go_num | (simp; done))))
    · have := Hp.at_lt hd9
      exact (xd14.eq _ (by simp; omega) (by simp; omega)).trans ((Hp.at_push_lt this).trans hd9)
    · assumption
    rintro i H' ⟨hi, h7, h11⟩
    by_cases hlt : i < l.length
    · obtain ⟨r, hr⟩ : ∃ r, l[i]? = some r := ⟨_, List.getElem?_eq_getElem hlt⟩
      obtain ⟨q1, q2⟩ := runV_get l i r hr
      have q3 : ((runV l).drop (i * 2)).take 2 = [.int .i64 (r.1 : Int), .int .i64 (r.2 : Int)] := by
        have hl2 := runV_length l
        obtain ⟨w1, w2⟩ := List.getElem?_eq_some_iff.1 q1
        obtain ⟨w3, w4⟩ := List.getElem?_eq_some_iff.1 q2
        rw [List.drop_eq_getElem_cons w1, List.take_succ_cons, w2, List.drop_eq_getElem_cons w3, List.take_succ_cons, w4, List.take_zero]
      have l7 := Hp.at_lt h7
      have l11 := Hp.at_lt h11
      focus
        refine GWP.seq ?_
        refine GWP.region ?_
        refine GOps.r rfl rfl rfl rfl (grd_lss rfl rfl rfl) ?_
        refine GOps.nil ?_
        refine GWP.seq ?_
        refine GWP.cond_t rfl ?_ ?_
        · exact decide_eq_true (by omega)
        refine GWP.skip ?_
        refine GWP.seq ?_
        refine GWP.block ?_
        refine GWP.seq ?_
        refine GWP.region ?_
        refine GOps.r rfl rfl rfl rfl (grd_move rfl rfl) ?_
        focus
          refine GOps.r rfl rfl rfl rfl (grd_indexAddrK (k2 := ?_) tab_is rfl rfl rfl rfl rfl ?_ ?_ ?_) ?_
          rotate_left 1
          · omega
          · omega
          · simp; rfl
        focus
          refine GOps.r rfl rfl rfl rfl (grd_loadNK (b := ?_) (cs := ?_) tab_is rfl rfl rfl rfl ?_ ?_ ?_) ?_
          rotate_left 2
          · assumption
          · simp; omega
          · assumption
        focus
          refine GOps.w1 rfl rfl rfl rfl (gop_alloc' (id := ?_) ?_ tab_is rfl rfl ?_) ?_
          rotate_left 1
          · rfl
          · decide
        refine GOps.r rfl rfl rfl rfl (grd_assign rfl rfl) ?_
        focus
          refine GOps.s rfl rfl rfl (gop_storeC (b := ?_) (cs := ?_) tab_is rfl rfl ?_ rfl rfl ?_ ?_ ?_ ?_ ?_ ?_) ?_
          rotate_left 2
          · rfl
          · rfl
          · exact Hp.at_push_eq
          · rfl
          · exact Nat.le_of_ble_eq_true rfl
          · exact .inr (by simp; omega)
          · simp [splice, Value.cells]; rfl
        refine GOps.nil ?_
        refine GWP.seq ?_
        refine GWP.drawR (by kernel_rfl) (by kernel_rfl) (by kernel_rfl) ?_
        refine GQ.r rfl rfl rfl rfl (grd_fieldAddr tab_is rfl rfl rfl rfl rfl) ?_ ?_
        · exact .inl rfl
        focus
          refine GQ.r rfl rfl rfl rfl (grd_load1 (b := ?_) (v := ?_) tab_is rfl rfl rfl rfl ?_ ?_) ?_ ?_
          rotate_left 2
          refine Hp.at_put_eq ?_
          · simp; done
          · rfl
          · exact .inl rfl
        refine GQ.r rfl rfl rfl rfl (grd_move rfl rfl) ?_ ?_
        · exact .inl rfl
        refine GQ.r rfl rfl rfl rfl (grd_move rfl rfl) ?_ ?_
        · exact .inl rfl
        focus
          refine GQ.r rfl rfl rfl rfl (grd_indexAddrK (k2 := ?_) tab_is rfl rfl rfl rfl rfl ?_ ?_ ?_) ?_ ?_
          rotate_left 1
          · omega
          · omega
          · simp; rfl
          · exact .inl rfl
        refine GQ.r rfl rfl rfl rfl (grd_fieldAddr tab_is rfl rfl rfl rfl rfl) ?_ ?_
        · exact .inl rfl
        focus
          refine GQ.r rfl rfl rfl rfl (grd_load1 (b := ?_) (v := ?_) tab_is rfl rfl rfl rfl ?_ ?_) ?_ ?_
          rotate_left 2
          refine (Hp.at_put_ne ?_).trans ?_
          · omega
          refine (Hp.at_push_lt ?_).trans ?_
          · omega
          · assumption
          · assumption
          · exact .inl rfl
        refine GQ.r rfl rfl rfl rfl (grd_neq rfl rfl rfl) ?_ ?_
        · exact .inl rfl
        refine GQ.r rfl rfl rfl rfl (grd_move rfl rfl) ?_ ?_
        · exact .inl rfl
        refine GQ.take rfl rfl ?_ ?_
        · simp; done
        refine GQ.r rfl rfl rfl rfl (grd_fieldAddr tab_is rfl rfl rfl rfl rfl) ?_ ?_
        · exact .inl rfl
        refine GQ.take rfl rfl ?_ ?_
        · simp; done
        focus
          refine GQ.r rfl rfl rfl rfl (grd_load1 (b := ?_) (v := ?_) tab_is rfl rfl rfl rfl ?_ ?_) ?_ ?_
          rotate_left 2
          refine Hp.at_put_eq ?_
          · simp; done
          · rfl
          · exact .inl rfl
        refine GQ.take rfl rfl ?_ ?_
        · simp; done
        refine GQ.r rfl rfl rfl rfl (grd_move rfl rfl) ?_ ?_
        · exact .inl rfl
        refine GQ.take rfl rfl ?_ ?_
        · simp; done
        refine GQ.r rfl rfl rfl rfl (grd_move rfl rfl) ?_ ?_
        · exact .inl rfl
        refine GQ.take rfl rfl ?_ ?_
        · simp; done
        focus
          refine GQ.r rfl rfl rfl rfl (grd_indexAddrK (k2 := ?_) tab_is rfl rfl rfl rfl rfl ?_ ?_ ?_) ?_ ?_
          rotate_left 1
          · omega
          · omega
          · simp; rfl
          · exact .inl rfl
        refine GQ.take rfl rfl ?_ ?_
        · simp; done
        refine GQ.r rfl rfl rfl rfl (grd_fieldAddr tab_is rfl rfl rfl rfl rfl) ?_ ?_
        · exact .inl rfl
        refine GQ.take rfl rfl ?_ ?_
        · simp; done
        focus
          refine GQ.r rfl rfl rfl rfl (grd_load1 (b := ?_) (v := ?_) tab_is rfl rfl rfl rfl ?_ ?_) ?_ ?_
          rotate_left 2
          refine (Hp.at_put_ne ?_).trans ?_
          · omega
          refine (Hp.at_push_lt ?_).trans ?_
          · omega
          · assumption
          · assumption
          · exact .inl rfl
        refine GQ.take rfl rfl ?_ ?_
        · simp; done
        refine GQ.r rfl rfl rfl rfl (grd_neq rfl rfl rfl) ?_ ?_
        · exact .inl rfl
        refine GQ.r rfl rfl rfl rfl (grd_pick_f rfl rfl ?_ rfl) ?_ ?_
        · exact decide_eq_false (by omega)
        · exact .inl rfl
        refine GQ.nil ?_
        refine GWP.cond_f rfl ?_ ?_
        · exact decide_eq_false (by omega)
        refine GWP.skip ?_
        refine GWP.region ?_
        refine GOps.r rfl rfl rfl rfl (grd_add64 rfl rfl rfl ?_) ?_
        · omega
        refine GOps.r rfl rfl rfl rfl (grd_move rfl rfl) ?_
        refine GOps.nil ?_
      refine ⟨i + 1, ?_, ⟨by omega, ?_, ?_⟩, by omega⟩
      ·
        repeat (first | exact Env.sub_nil | refine Env.sub_cons rfl ?_ | (refine Env.sub_cons (congrArg some ?_) ?_; (· first | rfl | go_num | (simp; done))))
      · ((repeat (first | (refine (killO_ne ?_).trans ?_; (· (intro hq; first | (have := lt_io _ hq; first | omega | (simp; omega)) | (have := lt_ig _ hq; first | omega | (simp; omega))))) | (refine (Hp.at_put_ne ?_).trans ?_; (· (first | assumption | (exact Ne.symm (by assumption)) | omega | (simp; done) | (simp; omega)))) | (refine (Hp.at_push_lt ?_).trans ?_; (· (first | assumption | omega | (simp; done) | (simp; omega)))) | (refine (Hp.at_kill_ne ?_).trans ?_; (· (first | assumption | (exact Ne.symm (by assumption)) | omega | (simp; done) | (simp; omega)))) | (refine (HExt.eq (by assumption) _ ?_ ?_).trans ?_; (· (first | assumption | omega | (simp; done) | (simp; omega))); (· (first | (intro h; cases h; done) | (simp; done) | (simp; omega)))))); (first | assumption | exact Hp.at_push_eq | (refine Hp.at_push_id ?_; (· (first | rfl | assumption | omega | (simp; done) | (simp; omega)))) | (refine Hp.at_put_eq ?_; (· (first | assumption | omega | (simp; done) | (simp; omega)))) | (refine Hp.at_put_id ?_ ?_; (· (first | rfl | assumption | omega | (simp; done) | (simp; omega))); (· (first | assumption | omega | (simp; done) | (simp; omega))))))
      · ((repeat (first | (refine (killO_ne ?_).trans ?_; (· (intro hq; first | (have := lt_io _ hq; first | omega | (simp; omega)) | (have := lt_ig _ hq; first | omega | (simp; omega))))) | (refine (Hp.at_put_ne ?_).trans ?_; (· (first | assumption | (exact Ne.symm (by assumption)) | omega | (simp; done) | (simp; omega)))) | (refine (Hp.at_push_lt ?_).trans ?_; (· (first | assumption | omega | (simp; done) | (simp; omega)))) | (refine (Hp.at_kill_ne ?_).trans ?_; (· (first | assumption | (exact Ne.symm (by assumption)) | omega | (simp; done) | (simp; omega)))) | (refine (HExt.eq (by assumption) _ ?_ ?_).trans ?_; (· (first | assumption | omega | (simp; done) | (simp; omega))); (· (first | (intro h; cases h; done) | (simp; done) | (simp; omega)))))); (first | assumption | exact Hp.at_push_eq | (refine Hp.at_push_id ?_; (· (first | rfl | assumption | omega | (simp; done) | (simp; omega)))) | (refine Hp.at_put_eq ?_; (· (first | assumption | omega | (simp; done) | (simp; omega)))) | (refine Hp.at_put_id ?_ ?_; (· (first | rfl | assumption | omega | (simp; done) | (simp; omega))); (· (first | assumption | omega | (simp; done) | (simp; omega))))))
    · focus
        refine GWP.seq ?_
        refine GWP.region ?_
        refine GOps.r rfl rfl rfl rfl (grd_lss rfl rfl rfl) ?_
        refine GOps.nil ?_
        refine GWP.seq ?_
        refine GWP.cond_f rfl ?_ ?_
        · exact decide_eq_false (by omega)
        refine GWP.exit ?_
        refine GWP.seq ?_
        refine GWP.region ?_
        refine GOps.r rfl rfl rfl rfl (grd_assign rfl rfl) ?_
        refine GOps.nil ?_
        refine GWP.ret ?_
        refine ⟨_, .one rfl, ?_⟩
        · rfl
theorem extentReads_walk (A : Option Addr) (n c : Nat) (l : List UInt8) (hl : l.length = c) (hn : n ≤ c) (hm : c ≤ maxLen) (hA : A = none → n = 0 ∧ c = 0) (x : Int) (_hw : (Lit.int .i64 x).wf = true) (W : World) (hr : Rd W W.heap.size A (vb l)) (h0 : ∃ (g : Nat) (rs : Array Value) (t : TypeId) (fz : Nat × Nat), W.heap[g]? = some (Obj.cells rs t fz)) :
    Calls Try.prog 9 #[.slice A n c, .int .i64 x] W fun e w' => e = .returned (.bool true) ∧ Below W.heap.size W w' := by
  obtain ⟨μ1, H1, p1, s1, ro1, x1, k1, b1, v1⟩ := (SimH.nothing W).bytes Ro.nil h0 hn hm hA hr hl
  refine ((g_extentReads H1 p1 n c _ b1 x).enter s1 (.cons v1 (.cons (.int _ _) .nil)) (R := fun u => u = .bool true) (fun v hv => by rw [hv]; rfl)).mono ?_
  rintro e w' ⟨v, rfl, rfl, q⟩
  exact ⟨rfl, q⟩
end Go.Proofs.Ytcbngjpihcemiaa
