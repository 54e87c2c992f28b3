/- Any blocks' bytes, also from a tape: the law. -/
import Derived.Test.YtcbngjpihcemiaaZz4
import Derived.Test.YtcbngjpihcemiaaZz0
namespace Go.Proofs.Ytcbngjpihcemiaa
open Go.RowKit Go.ChangeShapes Go.WideShapes Go.ChangeAt

theorem lives15 : comesTo ft noS tab 100000 48 [] (.bool true) = true := by kernel_rfl
set_option maxHeartbeats 4000000 in
set_option maxRecDepth 100000 in
set_option linter.unusedSimpArgs false in
theorem g_lives15 (H : Hp) : GCalls Try.prog 48 [] [] H (fun v H' => v = .bool true ∧ H' = H) := comesTo_any tab_is mix ft_ok (noS_ok _) lives15 H
theorem T1.bsk {H H' : Hp} {g q : Nat} {at_ : Int} {L : List UInt8} {j cj : Nat} {p : Option Addr} {c : Nat} {cp : Int} (h : T1 H g q at_ L j cj p c cp) (x : HExt [g] H H') : BSk H H' := fun v M k => bs_extF k x fun i hi => by
  obtain rfl := List.mem_singleton.1 hi
  exact ⟨_, h.hg, rfl⟩
theorem t1P.out {g q : Nat} {a : Int} {L : List UInt8} {H : Hp} (h : t1P g q a L H) : ∃ j cj p c cp, T1 H g q a L j cj p c cp := h
set_option maxHeartbeats 4000000 in
set_option maxRecDepth 100000 in
set_option linter.unusedSimpArgs false in
theorem g_checkH (H : Hp) (a b c d e : Nat) (h1 : a ≤ 1073741824) (h2 : b ≤ 1073741824) (h3 : c ≤ 1073741824) (h4 : d ≤ 1073741824) (h5 : e ≤ 1073741824) : GCalls Try.prog 50 [.iface 92 (.agg #[.int .i64 (a : Int), .int .i64 (b : Int), .int .i64 (c : Int), .int .i64 (d : Int), .int .i64 (e : Int)])] [] H fun v H' => v = .bool true ∧ HExt [] H H' := by
  have hseg := segO_head h1 h2 h3 h4 h5
  have hlen := segL_len 72 a b c d e h1 h2 h3 h4 h5
  have hB := fun H => g_sbytesH H a b c d e h1 h2 h3 h4 h5
  have hPl := fun H => g_plainH H (a : Int) b c d e
  have hR := fun H => g_rightN H 72 (a : Int) b c d e (by decide) ⟨by omega, by omega⟩ ⟨by omega, by omega⟩ ⟨by omega, by omega⟩ ⟨by omega, by omega⟩ ⟨by omega, by omega⟩
  have hRB := fun H => g_rbytesH H a b c d e h1 h2 h3 h4 h5
  generalize segL 72 a b c d e = X at hseg hlen hB hRB
  unfold blkV at hPl hRB
  have hS0 := fun H p n c hb hn => g_sread H p n c (sealL (X)) hb hn
  rw [hseg] at hS0
  have hG0 := fun H g q j cj p c cp h => (g_sget1 H g q (sealL (X)) (by rw [sealL_length]; omega) j cj p c cp h).mono fun v H' k => (⟨k.1, k.2.1, T1.bsk h k.2.2, k.2.2⟩ : SegV H' v (segO (sealL (X))) ∧ T1 H' g q 1 (sealL (X)) j cj p c cp ∧ BSk H H' ∧ HExt [g] H H')
  have hSk := fun H g q a j cj p c cp h => (g_Seek0 H g q a (sealL (X)) j cj p c cp h).mono fun v H' k => (⟨k.1, k.2.1, T1.bsk h k.2.2, k.2.2⟩ : v = .int .i64 0 ∧ T1 H' g q 0 (sealL (X)) j cj p c cp ∧ BSk H H' ∧ HExt [g] H H')
  rw [hseg] at hG0
  simp only [SegV] at hS0 hG0
  have hP := fun (H : Hp) g q h hq (hb : True) => g_sput H g q h hq _ (X) (by omega) (hB H)
  refine GCalls.body tab_is Try.func50 rfl Try.results50 Try.ntmps50 (by simp) ?_ ?_
  · first | (intro _ h; cases h; done) | (simp; done) | (simp; omega) | (intro i hi; simp at hi; rcases hi with rfl | rfl <;> omega) | (intro i hi; simp at hi; rcases hi with rfl | rfl | rfl <;> omega)
  focus
    refine GWP.seq ?_
    refine GWP.region ?_
    refine GOps.r rfl rfl rfl rfl (grd_assign rfl rfl) ?_
    refine GOps.nil ?_
    refine GWP.seq ?_
    refine GWP.region ?_
    refine GOps.r rfl rfl rfl rfl (grd_move rfl rfl) ?_
    refine GOps.w rfl rfl rfl rfl (gop_call rfl Try.call106 rfl ?_ (hPl _)) ?_
    · intro _ h; cases h; done
    rintro _ Hxa1 ⟨rfl, xa1⟩
    have xa1l := HExt.len xa1; try simp at xa1l
    focus
      refine GOps.w1 rfl rfl rfl rfl (gop_alloc' (id := ?_) ?_ tab_is rfl rfl ?_) ?_
      rotate_left 1
      · rfl
      · decide
    focus
      refine GOps.s rfl rfl rfl (gop_storeC (b := ?_) (cs := ?_) tab_is rfl rfl ?_ rfl rfl ?_ ?_ ?_ ?_ ?_ ?_) ?_
      rotate_left 2
      · rfl
      · rfl
      · exact Hp.at_push_eq
      · rfl
      · exact Nat.le_of_ble_eq_true rfl
      · exact .inr (by omega)
      · simp [splice, Value.cells]; rfl
    refine GOps.nil ?_
    refine GWP.seq ?_
    refine GWP.region ?_
    refine GOps.r rfl rfl rfl rfl (grd_move rfl rfl) ?_
    refine GOps.w rfl rfl rfl rfl (gop_call rfl Try.call49 rfl ?_ (hB _)) ?_
    · intro _ h; cases h; done
    rintro _ Hxa5 ⟨⟨pa2, ca3, rfl, ba4⟩, xa5⟩
    have xa5l := HExt.len xa5; try simp at xa5l
    refine GOps.r rfl rfl rfl rfl (grd_move rfl rfl) ?_
    focus
      refine GOps.r rfl rfl rfl rfl (grd_extract (v := ?_) rfl rfl ?_) ?_
      rotate_left 1
      · simp only [List.getElem?_toArray, List.getElem?_cons_zero, List.getElem?_cons_succ]; rfl
    focus
      refine GOps.r rfl rfl rfl rfl (grd_extract (v := ?_) rfl rfl ?_) ?_
      rotate_left 1
      · simp only [List.getElem?_toArray, List.getElem?_cons_zero, List.getElem?_cons_succ]; rfl
    refine GOps.r rfl rfl rfl rfl (grd_assign rfl rfl) ?_
    refine GOps.r rfl rfl rfl rfl (grd_assign rfl rfl) ?_
    refine GOps.nil ?_
    refine GWP.seq ?_
    refine GWP.region ?_
    focus
      refine GOps.r rfl rfl rfl rfl (grd_build (cs := ?_) tab_is rfl rfl rfl ?_ rfl ?_) ?_
      rotate_left 1
      · decide
      · simp [gfill, gsets, Value.cells]; rfl
    refine GOps.w1 rfl rfl rfl rfl (gop_call rfl Try.call15 rfl ?_ (g_pnew0 _)) ?_
    · intro _ h; cases h; done
    refine GOps.w rfl rfl rfl rfl (gop_call rfl Try.call27 rfl ?_ (g_tnew0 _ _)) ?_
    · intro _ h; cases h; done
    rintro _ Hxa9 ⟨⟨ga6, rfl, la7, ta8⟩, xa9⟩
    simp at la7
    have xa9l := HExt.len xa9; try simp at xa9l
    have ta8q := Hp.at_lt ta8
    refine GOps.r rfl rfl rfl rfl (grd_move rfl rfl) ?_
    focus
      refine GOps.r rfl rfl rfl rfl (grd_extract (v := ?_) rfl rfl ?_) ?_
      rotate_left 1
      · simp only [List.getElem?_toArray, List.getElem?_cons_zero, List.getElem?_cons_succ]; rfl
    focus
      refine GOps.r rfl rfl rfl rfl (grd_extract (v := ?_) rfl rfl ?_) ?_
      rotate_left 1
      · simp only [List.getElem?_toArray, List.getElem?_cons_zero, List.getElem?_cons_succ]; rfl
    refine GOps.r rfl rfl rfl rfl (grd_assign rfl rfl) ?_
    refine GOps.r rfl rfl rfl rfl (grd_assign rfl rfl) ?_
    refine GOps.nil ?_
    refine GWP.seq ?_
    refine GWP.region ?_
    refine GOps.r rfl rfl rfl rfl (grd_move rfl rfl) ?_
    refine GOps.r rfl rfl rfl rfl (grd_move rfl rfl) ?_
    focus
      refine GOps.w rfl rfl rfl rfl (gop_call rfl Try.call107 rfl ?_ (hP _ _ ?_ ?_ ?_ ?_)) ?_
      rotate_left 1
      rotate_left 1
      · assumption
      refine (HExt.eq (by assumption) _ ?_ ?_).trans ?_
      · simp; done
      · intro h; cases h; done
      · exact Hp.at_push_eq
      · trivial
      rotate_left 1
      · simp [Ctx.may]; omega
    rintro _ Hxa16 ⟨rfl, ⟨ja10, da11, pa12, ca13, ea14, ta15⟩, xa16⟩
    have xa16l := HExt.len xa16; try simp at xa16l
    refine GOps.r rfl rfl rfl rfl (grd_assign rfl rfl) ?_
    refine GOps.nil ?_
    refine GWP.seq ?_
    refine GWP.seq ?_
    refine GWP.region ?_
    focus
      refine GOps.r rfl rfl rfl rfl (grd_loadNK (b := ?_) (cs := ?_) tab_is rfl rfl rfl rfl ?_ ?_ ?_) ?_
      rotate_left 2
      refine (HExt.eq (by assumption) _ ?_ ?_).trans ?_
      · omega
      · simp; omega
      refine (HExt.eq (by assumption) _ ?_ ?_).trans ?_
      · simp; omega
      · intro h; cases h; done
      refine (Hp.at_push_lt ?_).trans ?_
      · omega
      refine (HExt.eq (by assumption) _ ?_ ?_).trans ?_
      · simp; done
      · intro h; cases h; done
      refine Hp.at_put_eq ?_
      · simp; done
      · exact Nat.le_of_ble_eq_true rfl
      · simp [Value.cells]; rfl
    refine GOps.w rfl rfl rfl rfl (gop_call rfl Try.call108 rfl ?_ (hR _)) ?_
    · intro _ h; cases h; done
    rintro _ Hxa17 ⟨rfl, xa17⟩
    have xa17l := HExt.len xa17; try simp at xa17l
    refine GOps.r rfl rfl rfl rfl (grd_not rfl rfl) ?_
    refine GOps.nil ?_
    refine GWP.cond_f rfl ?_ ?_
    · simp; done
    refine GWP.skip ?_
    refine GWP.seq ?_
    refine GWP.region ?_
    refine GOps.r rfl rfl rfl rfl (grd_move rfl rfl) ?_
    refine GOps.w rfl rfl rfl rfl (gop_call rfl Try.call109 rfl ?_ (hS0 _ _ _ _ ?_ ?_)) ?_
    · intro _ h; cases h; done
    focus
      refine BS.ext (by assumption) ?_
      refine HExt.tr ?_ (by assumption) ?_
      refine HExt.tr ?_ (by assumption) ?_
      refine HExt.tr ?_ (by assumption) ?_
      refine HExt.push ?_
      · exact HExt.refl _ _
      · intro _ h; cases h; done
      · simp; omega
      · intro _ h; cases h; done
    · omega
    rintro _ Hxa18 ⟨rfl, xa18⟩
    have xa18l := HExt.len xa18; try simp at xa18l
    refine GOps.r rfl rfl rfl rfl (grd_move rfl rfl) ?_
    focus
      refine GOps.r rfl rfl rfl rfl (grd_extract (v := ?_) rfl rfl ?_) ?_
      rotate_left 1
      · simp only [List.getElem?_toArray, List.getElem?_cons_zero, List.getElem?_cons_succ]; rfl
    focus
      refine GOps.r rfl rfl rfl rfl (grd_extract (v := ?_) rfl rfl ?_) ?_
      rotate_left 1
      · simp only [List.getElem?_toArray, List.getElem?_cons_zero, List.getElem?_cons_succ]; rfl
    refine GOps.r rfl rfl rfl rfl (grd_assign rfl rfl) ?_
    refine GOps.r rfl rfl rfl rfl (grd_assign rfl rfl) ?_
    refine GOps.nil ?_
    refine GWP.seq ?_
    refine GWP.region ?_
    refine GOps.r rfl rfl rfl rfl (grd_move rfl rfl) ?_
    focus
      refine GOps.w rfl rfl rfl rfl (gop_call rfl Try.call84 rfl ?_ (hSk _ _ ?_ ?_ ?_ ?_ ?_ ?_ ?_ ?_)) ?_
      · simp [Ctx.may]; omega
      rotate_left 7
      · exact T1.ext (T1.ext (by assumption) (by assumption)) (by assumption)
    rintro _ Hxa21 ⟨rfl, ta19, ka20, xa21⟩
    have xa21l := HExt.len xa21; try simp at xa21l
    refine GOps.nil ?_
    refine GWP.seq ?_
    refine GWP.region ?_
    refine GOps.r rfl rfl rfl rfl (grd_move rfl rfl) ?_
    focus
      refine GOps.w rfl rfl rfl rfl (gop_call rfl Try.call110 rfl ?_ (hG0 _ _ ?_ ?_ ?_ ?_ ?_ ?_ ?_)) ?_
      · simp [Ctx.may]; omega
      rotate_left 6
      · assumption
    rintro _ Hxa24 ⟨rfl, ta22, ka23, xa24⟩
    have xa24l := HExt.len xa24; try simp at xa24l
    refine GOps.r rfl rfl rfl rfl (grd_move rfl rfl) ?_
    focus
      refine GOps.r rfl rfl rfl rfl (grd_extract (v := ?_) rfl rfl ?_) ?_
      rotate_left 1
      · simp only [List.getElem?_toArray, List.getElem?_cons_zero, List.getElem?_cons_succ]; rfl
    focus
      refine GOps.r rfl rfl rfl rfl (grd_extract (v := ?_) rfl rfl ?_) ?_
      rotate_left 1
      · simp only [List.getElem?_toArray, List.getElem?_cons_zero, List.getElem?_cons_succ]; rfl
    refine GOps.r rfl rfl rfl rfl (grd_assign rfl rfl) ?_
    refine GOps.r rfl rfl rfl rfl (grd_assign rfl rfl) ?_
    refine GOps.nil ?_
    refine GWP.seq ?_
    refine GWP.region ?_
    refine GOps.r rfl rfl rfl rfl (grd_move rfl rfl) ?_
    focus
      refine GOps.w1 rfl rfl rfl rfl (gop_call rfl Try.call110 rfl ?_ (g_sget2 _ _ ?_ ?_ ?_ ?_ ?_ ?_ ?_ ?_)) ?_
      · intro _ h; cases h; done
      rotate_left 7
      · assumption
    refine GOps.r rfl rfl rfl rfl (grd_move rfl rfl) ?_
    focus
      refine GOps.r rfl rfl rfl rfl (grd_extract (v := ?_) rfl rfl ?_) ?_
      rotate_left 1
      · simp only [List.getElem?_toArray, List.getElem?_cons_zero, List.getElem?_cons_succ]; rfl
    focus
      refine GOps.r rfl rfl rfl rfl (grd_extract (v := ?_) rfl rfl ?_) ?_
      rotate_left 1
      · simp only [List.getElem?_toArray, List.getElem?_cons_zero, List.getElem?_cons_succ]; rfl
    refine GOps.r rfl rfl rfl rfl (grd_assign rfl rfl) ?_
    refine GOps.r rfl rfl rfl rfl (grd_assign rfl rfl) ?_
    refine GOps.nil ?_
    refine GWP.seq ?_
    refine GWP.draw [.reads [0, 1, 2, 3, 5, 4], .write 6, .reads [7, 8, 9, 10, 11, 12, 13, 14, 15, 16, 17, 18, 19, 21], .write 20, .reads [22, 23, 24, 25, 26, 27, 28, 29, 31], .write 30, .reads [32, 33, 34, 35, 36, 37, 38]] false (blkOf pa2 ++ [List.length Hxa1]) (by kernel_rfl) (by kernel_rfl) (by kernel_rfl) (by kernel_rfl) ?_ ?_
    focus
      refine prt_len (BS.ext (by assumption) ?_) ?_
      focus
        refine HExt.tr ?_ (by assumption) ?_
        refine HExt.tr ?_ (by assumption) ?_
        refine HExt.tr ?_ (by assumption) ?_
        refine HExt.tr ?_ (by assumption) ?_
        refine HExt.tr ?_ (by assumption) ?_
        refine HExt.tr ?_ (by assumption) ?_
        refine HExt.push ?_
        · exact HExt.refl _ _
        · intro _ h; cases h; done
        · simp; omega
        · intro _ h; cases h; done
        · intro _ h; cases h; done
        · simp; omega
        · simp; omega
      focus
        · simp; omega
    refine GPcs.reads (by simp only [List.filterMap_cons, List.filterMap_nil, List.getElem?_toArray, List.getElem?_cons_succ, List.getElem?_cons_zero]; rfl) ?_
    refine GQ.r rfl rfl rfl rfl (grd_move rfl rfl) ?_ ?_
    · refine .inr ?_; simp; done
    refine GQ.r rfl rfl rfl rfl (grd_eql rfl rfl rfl) ?_ ?_
    · refine .inr ?_; simp; done
    refine GQ.r rfl rfl rfl rfl (grd_move rfl rfl) ?_ ?_
    · refine .inr ?_; simp; done
    refine GQ.take rfl rfl ?_ ?_
    · simp; done
    refine GQ.r rfl rfl rfl rfl (grd_move rfl rfl) ?_ ?_
    · refine .inr ?_; simp; done
    refine GQ.take rfl rfl ?_ ?_
    · simp; done
    focus
      refine GQ.r rfl rfl rfl rfl (grd_loadNK (b := ?_) (cs := ?_) tab_is rfl rfl rfl rfl ?_ ?_ ?_) ?_ ?_
      rotate_left 2
      refine (HExt.eq (by assumption) _ ?_ ?_).trans ?_
      · omega
      · simp; omega
      refine (HExt.eq (by assumption) _ ?_ ?_).trans ?_
      · omega
      · simp; omega
      refine (HExt.eq (by assumption) _ ?_ ?_).trans ?_
      · omega
      · intro h; cases h; done
      refine (HExt.eq (by assumption) _ ?_ ?_).trans ?_
      · omega
      · intro h; cases h; done
      refine (HExt.eq (by assumption) _ ?_ ?_).trans ?_
      · omega
      · simp; omega
      refine (HExt.eq (by assumption) _ ?_ ?_).trans ?_
      · simp; omega
      · intro h; cases h; done
      refine (Hp.at_push_lt ?_).trans ?_
      · omega
      refine (HExt.eq (by assumption) _ ?_ ?_).trans ?_
      · simp; done
      · intro h; cases h; done
      refine Hp.at_put_eq ?_
      · simp; done
      · exact Nat.le_of_ble_eq_true rfl
      · simp [Value.cells]; rfl
      · refine .inr ?_; simp; done
    refine GQ.take rfl rfl ?_ ?_
    · simp; done
    focus
      refine GQ.r rfl rfl rfl rfl (grd_strBP (L := ?_) tab_is rfl rfl rfl rfl rfl rfl rfl rfl ?_) ?_ ?_
      rotate_left 1
      focus
        refine BS.ext (by assumption) ?_
        refine HExt.tr ?_ (by assumption) ?_
        refine HExt.tr ?_ (by assumption) ?_
        refine HExt.tr ?_ (by assumption) ?_
        refine HExt.tr ?_ (by assumption) ?_
        refine HExt.tr ?_ (by assumption) ?_
        refine HExt.tr ?_ (by assumption) ?_
        refine HExt.push ?_
        · exact HExt.refl _ _
        · intro _ h; cases h; done
        · simp; omega
        · intro _ h; cases h; done
        · intro _ h; cases h; done
        · simp; omega
        · simp; omega
      · refine .inr ?_; intro i hi; simp [hi]
    refine GQ.nil ?_
    refine GPcs.writeD false rfl rfl ?_ rfl rfl (gopf_call rfl Try.call111 rfl ?_ (hRB _)) rfl ?_ ?_ ?_
    · simp; done
    · intro _ h; cases h; done
    · intro _ h; cases h; done
    focus
      refine prt_app (BS.ext (by assumption) ?_) ?_ ?_
      focus
        refine HExt.tr ?_ (by assumption) ?_
        refine HExt.tr ?_ (by assumption) ?_
        refine HExt.tr ?_ (by assumption) ?_
        refine HExt.tr ?_ (by assumption) ?_
        refine HExt.tr ?_ (by assumption) ?_
        refine HExt.tr ?_ (by assumption) ?_
        refine HExt.push ?_
        · exact HExt.refl _ _
        · intro _ h; cases h; done
        · simp; omega
        · intro _ h; cases h; done
        · intro _ h; cases h; done
        · simp; omega
        · simp; omega
      focus
        · intro _ h; cases h; done
      focus
        focus
          refine List.forall_mem_cons.2 ⟨⟨⟨?_, ?_⟩, ?_⟩, ?_⟩
          rotate_left 1
          refine (HExt.eq (by assumption) _ ?_ ?_).trans ?_
          · omega
          · simp; omega
          refine (HExt.eq (by assumption) _ ?_ ?_).trans ?_
          · omega
          · simp; omega
          refine (HExt.eq (by assumption) _ ?_ ?_).trans ?_
          · omega
          · intro h; cases h; done
          refine (HExt.eq (by assumption) _ ?_ ?_).trans ?_
          · omega
          · intro h; cases h; done
          refine (HExt.eq (by assumption) _ ?_ ?_).trans ?_
          · omega
          · simp; omega
          refine (HExt.eq (by assumption) _ ?_ ?_).trans ?_
          · simp; omega
          · intro h; cases h; done
          refine (Hp.at_push_lt ?_).trans ?_
          · omega
          refine (HExt.eq (by assumption) _ ?_ ?_).trans ?_
          · simp; done
          · intro h; cases h; done
          refine Hp.at_put_eq ?_
          · simp; done
          · intro h; cases h; done
          · intro _ h; cases h; done
    rintro _ Hxa28 ⟨⟨pa25, ca26, rfl, ba27⟩, xa28⟩
    have xa28l := HExt.len xa28; try simp at xa28l
    refine ⟨blkOf pa25 ++ ((blkOf pa2 ++ [List.length Hxa1])), ?_, ?_, ?_⟩
    · intro i hi; simp [hi]
    focus
      refine prt_len (by assumption) ?_
      focus
        refine prt_len (BS.ext (by assumption) ?_) ?_
        focus
          refine HExt.tr ?_ (by assumption) ?_
          refine HExt.tr ?_ (by assumption) ?_
          refine HExt.tr ?_ (by assumption) ?_
          refine HExt.tr ?_ (by assumption) ?_
          refine HExt.tr ?_ (by assumption) ?_
          refine HExt.tr ?_ (by assumption) ?_
          refine HExt.tr ?_ (by assumption) ?_
          refine HExt.push ?_
          · exact HExt.refl _ _
          · intro _ h; cases h; done
          · simp; omega
          · intro _ h; cases h; done
          · intro _ h; cases h; done
          · simp; omega
          · simp; omega
          · intro _ h; cases h; done
        focus
          · simp; omega
    refine GPcs.reads (by simp only [List.filterMap_cons, List.filterMap_nil, List.getElem?_toArray, List.getElem?_cons_succ, List.getElem?_cons_zero]; rfl) ?_
    refine GQ.take rfl rfl ?_ ?_
    · simp; done
    focus
      refine GQ.r rfl rfl rfl rfl (grd_strBP (L := ?_) tab_is rfl rfl rfl rfl rfl rfl rfl rfl ?_) ?_ ?_
      rotate_left 1
      · assumption
      · refine .inr ?_; intro i hi; simp [hi]
    refine GQ.take rfl rfl ?_ ?_
    · simp; done
    refine GQ.r rfl rfl rfl rfl (grd_seql' rfl rfl rfl) ?_ ?_
    · refine .inr ?_; simp; done
    refine GQ.r rfl rfl rfl rfl (grd_pick_t rfl rfl ?_ rfl) ?_ ?_
    · exact decide_eq_true (by omega)
    · refine .inr ?_; simp; done
    refine GQ.r rfl rfl rfl rfl (grd_move rfl rfl) ?_ ?_
    · refine .inr ?_; simp; done
    refine GQ.take rfl rfl ?_ ?_
    · simp; done
    refine GQ.r rfl rfl rfl rfl (grd_move rfl rfl) ?_ ?_
    · refine .inr ?_; simp; done
    refine GQ.take rfl rfl ?_ ?_
    · simp; done
    refine GQ.r rfl rfl rfl rfl (grd_eql rfl rfl rfl) ?_ ?_
    · refine .inr ?_; simp; done
    refine GQ.r rfl rfl rfl rfl (grd_pick_t rfl rfl ?_ rfl) ?_ ?_
    · simp; done
    · refine .inr ?_; simp; done
    refine GQ.r rfl rfl rfl rfl (grd_move rfl rfl) ?_ ?_
    · refine .inr ?_; simp; done
    refine GQ.take rfl rfl ?_ ?_
    · simp; done
    refine GQ.r rfl rfl rfl rfl (grd_move rfl rfl) ?_ ?_
    · refine .inr ?_; simp; done
    refine GQ.take rfl rfl ?_ ?_
    · simp; done
    refine GQ.r rfl rfl rfl rfl (grd_eql rfl rfl rfl) ?_ ?_
    · refine .inr ?_; simp; done
    refine GQ.r rfl rfl rfl rfl (grd_pick_t rfl rfl ?_ rfl) ?_ ?_
    · exact decide_eq_true (by omega)
    · refine .inr ?_; simp; done
    refine GQ.r rfl rfl rfl rfl (grd_move rfl rfl) ?_ ?_
    · refine .inr ?_; simp; done
    refine GQ.take rfl rfl ?_ ?_
    · simp; done
    refine GQ.r rfl rfl rfl rfl (grd_move rfl rfl) ?_ ?_
    · refine .inr ?_; simp; done
    refine GQ.take rfl rfl ?_ ?_
    · simp; done
    focus
      refine GQ.r rfl rfl rfl rfl (grd_loadNK (b := ?_) (cs := ?_) tab_is rfl rfl rfl rfl ?_ ?_ ?_) ?_ ?_
      rotate_left 2
      refine (HExt.eq (by assumption) _ ?_ ?_).trans ?_
      · omega
      · intro h; cases h; done
      refine (HExt.eq (by assumption) _ ?_ ?_).trans ?_
      · omega
      · simp; omega
      refine (HExt.eq (by assumption) _ ?_ ?_).trans ?_
      · omega
      · simp; omega
      refine (HExt.eq (by assumption) _ ?_ ?_).trans ?_
      · omega
      · intro h; cases h; done
      refine (HExt.eq (by assumption) _ ?_ ?_).trans ?_
      · omega
      · intro h; cases h; done
      refine (HExt.eq (by assumption) _ ?_ ?_).trans ?_
      · omega
      · simp; omega
      refine (HExt.eq (by assumption) _ ?_ ?_).trans ?_
      · simp; omega
      · intro h; cases h; done
      refine (Hp.at_push_lt ?_).trans ?_
      · omega
      refine (HExt.eq (by assumption) _ ?_ ?_).trans ?_
      · simp; done
      · intro h; cases h; done
      refine Hp.at_put_eq ?_
      · simp; done
      · exact Nat.le_of_ble_eq_true rfl
      · simp [Value.cells]; rfl
      · refine .inr ?_; simp; done
    refine GQ.nil ?_
    refine GPcs.writeD false rfl rfl ?_ rfl rfl (gopf_call rfl Try.call106 rfl ?_ (hPl _)) rfl ?_ ?_ ?_
    · simp; done
    · intro _ h; cases h; done
    · intro _ h; cases h; done
    focus
      refine prt_app (by assumption) ?_ ?_
      focus
        · intro _ h; cases h; done
      focus
        refine prt_app (BS.ext (by assumption) ?_) ?_ ?_
        focus
          refine HExt.tr ?_ (by assumption) ?_
          refine HExt.tr ?_ (by assumption) ?_
          refine HExt.tr ?_ (by assumption) ?_
          refine HExt.tr ?_ (by assumption) ?_
          refine HExt.tr ?_ (by assumption) ?_
          refine HExt.tr ?_ (by assumption) ?_
          refine HExt.tr ?_ (by assumption) ?_
          refine HExt.push ?_
          · exact HExt.refl _ _
          · intro _ h; cases h; done
          · simp; omega
          · intro _ h; cases h; done
          · intro _ h; cases h; done
          · simp; omega
          · simp; omega
          · intro _ h; cases h; done
        focus
          · intro _ h; cases h; done
        focus
          focus
            refine List.forall_mem_cons.2 ⟨⟨⟨?_, ?_⟩, ?_⟩, ?_⟩
            rotate_left 1
            refine (HExt.eq (by assumption) _ ?_ ?_).trans ?_
            · omega
            · intro h; cases h; done
            refine (HExt.eq (by assumption) _ ?_ ?_).trans ?_
            · omega
            · simp; omega
            refine (HExt.eq (by assumption) _ ?_ ?_).trans ?_
            · omega
            · simp; omega
            refine (HExt.eq (by assumption) _ ?_ ?_).trans ?_
            · omega
            · intro h; cases h; done
            refine (HExt.eq (by assumption) _ ?_ ?_).trans ?_
            · omega
            · intro h; cases h; done
            refine (HExt.eq (by assumption) _ ?_ ?_).trans ?_
            · omega
            · simp; omega
            refine (HExt.eq (by assumption) _ ?_ ?_).trans ?_
            · simp; omega
            · intro h; cases h; done
            refine (Hp.at_push_lt ?_).trans ?_
            · omega
            refine (HExt.eq (by assumption) _ ?_ ?_).trans ?_
            · simp; done
            · intro h; cases h; done
            refine Hp.at_put_eq ?_
            · simp; done
            · intro h; cases h; done
            · intro _ h; cases h; done
    rintro _ Hxa29 ⟨rfl, xa29⟩
    have xa29l := HExt.len xa29; try simp at xa29l
    refine ⟨(blkOf pa25 ++ (blkOf pa2 ++ [List.length Hxa1])), ?_, ?_, ?_⟩
    · simp; done
    focus
      refine prt_len (BS.ext (by assumption) ?_) ?_
      focus
        · assumption
      focus
        refine prt_len (BS.ext (by assumption) ?_) ?_
        focus
          refine HExt.tr ?_ (by assumption) ?_
          refine HExt.tr ?_ (by assumption) ?_
          refine HExt.tr ?_ (by assumption) ?_
          refine HExt.tr ?_ (by assumption) ?_
          refine HExt.tr ?_ (by assumption) ?_
          refine HExt.tr ?_ (by assumption) ?_
          refine HExt.tr ?_ (by assumption) ?_
          refine HExt.tr ?_ (by assumption) ?_
          refine HExt.push ?_
          · exact HExt.refl _ _
          · intro _ h; cases h; done
          · simp; omega
          · intro _ h; cases h; done
          · intro _ h; cases h; done
          · simp; omega
          · simp; omega
          · intro _ h; cases h; done
          · intro _ h; cases h; done
        focus
          · simp; omega
    refine GPcs.reads (by simp only [List.filterMap_cons, List.filterMap_nil, List.getElem?_toArray, List.getElem?_cons_succ, List.getElem?_cons_zero]; rfl) ?_
    refine GQ.take rfl rfl ?_ ?_
    · simp; done
    focus
      refine GQ.r rfl rfl rfl rfl (grd_aeqlK (b := ?_) tab_is rfl rfl rfl rfl rfl rfl ?_ ?_ ?_) ?_ ?_
      rotate_left 1
      · rfl
      · rfl
      · simp [lEq, cEq]; rfl
      · refine .inr ?_; simp; done
    refine GQ.r rfl rfl rfl rfl (grd_pick_t rfl rfl ?_ rfl) ?_ ?_
    · exact decide_eq_true (by omega)
    · refine .inr ?_; simp; done
    refine GQ.r rfl rfl rfl rfl (grd_move rfl rfl) ?_ ?_
    · refine .inr ?_; simp; done
    refine GQ.take rfl rfl ?_ ?_
    · simp; done
    refine GQ.r rfl rfl rfl rfl (grd_move rfl rfl) ?_ ?_
    · refine .inr ?_; simp; done
    refine GQ.take rfl rfl ?_ ?_
    · simp; done
    refine GQ.r rfl rfl rfl rfl (grd_eql rfl rfl rfl) ?_ ?_
    · refine .inr ?_; simp; done
    refine GQ.r rfl rfl rfl rfl (grd_pick_t rfl rfl ?_ rfl) ?_ ?_
    · with_reducible rfl
    · refine .inr ?_; simp; done
    refine GQ.r rfl rfl rfl rfl (grd_move rfl rfl) ?_ ?_
    · refine .inr ?_; simp; done
    refine GQ.take rfl rfl ?_ ?_
    · simp; done
    refine GQ.r rfl rfl rfl rfl (grd_move rfl rfl) ?_ ?_
    · refine .inr ?_; simp; done
    refine GQ.take rfl rfl ?_ ?_
    · simp; done
    focus
      refine GQ.r rfl rfl rfl rfl (grd_loadNK (b := ?_) (cs := ?_) tab_is rfl rfl rfl rfl ?_ ?_ ?_) ?_ ?_
      rotate_left 2
      refine (HExt.eq (by assumption) _ ?_ ?_).trans ?_
      · omega
      · intro h; cases h; done
      refine (HExt.eq (by assumption) _ ?_ ?_).trans ?_
      · omega
      · intro h; cases h; done
      refine (HExt.eq (by assumption) _ ?_ ?_).trans ?_
      · omega
      · simp; omega
      refine (HExt.eq (by assumption) _ ?_ ?_).trans ?_
      · omega
      · simp; omega
      refine (HExt.eq (by assumption) _ ?_ ?_).trans ?_
      · omega
      · intro h; cases h; done
      refine (HExt.eq (by assumption) _ ?_ ?_).trans ?_
      · omega
      · intro h; cases h; done
      refine (HExt.eq (by assumption) _ ?_ ?_).trans ?_
      · omega
      · simp; omega
      refine (HExt.eq (by assumption) _ ?_ ?_).trans ?_
      · simp; omega
      · intro h; cases h; done
      refine (Hp.at_push_lt ?_).trans ?_
      · omega
      refine (HExt.eq (by assumption) _ ?_ ?_).trans ?_
      · simp; done
      · intro h; cases h; done
      refine Hp.at_put_eq ?_
      · simp; done
      · exact Nat.le_of_ble_eq_true rfl
      · simp [Value.cells]; rfl
      · refine .inr ?_; simp; done
    refine GQ.nil ?_
    refine GPcs.write true (blkOf pa25 ++ (blkOf pa2 ++ [List.length Hxa1])) rfl rfl ?_ rfl rfl (gopf_call rfl Try.call106 rfl ?_ (hPl _)) rfl ?_ ?_ ?_ ?_
    · simp; done
    · intro _ h; cases h; done
    · intro _ h; cases h; done
    focus
      refine prt_app (BS.ext (by assumption) ?_) ?_ ?_
      focus
        · assumption
      focus
        · intro _ h; cases h; done
      focus
        refine prt_app (BS.ext (by assumption) ?_) ?_ ?_
        focus
          refine HExt.tr ?_ (by assumption) ?_
          refine HExt.tr ?_ (by assumption) ?_
          refine HExt.tr ?_ (by assumption) ?_
          refine HExt.tr ?_ (by assumption) ?_
          refine HExt.tr ?_ (by assumption) ?_
          refine HExt.tr ?_ (by assumption) ?_
          refine HExt.tr ?_ (by assumption) ?_
          refine HExt.tr ?_ (by assumption) ?_
          refine HExt.push ?_
          · exact HExt.refl _ _
          · intro _ h; cases h; done
          · simp; omega
          · intro _ h; cases h; done
          · intro _ h; cases h; done
          · simp; omega
          · simp; omega
          · intro _ h; cases h; done
          · intro _ h; cases h; done
        focus
          · intro _ h; cases h; done
        focus
          focus
            refine List.forall_mem_cons.2 ⟨⟨⟨?_, ?_⟩, ?_⟩, ?_⟩
            rotate_left 1
            refine (HExt.eq (by assumption) _ ?_ ?_).trans ?_
            · omega
            · intro h; cases h; done
            refine (HExt.eq (by assumption) _ ?_ ?_).trans ?_
            · omega
            · intro h; cases h; done
            refine (HExt.eq (by assumption) _ ?_ ?_).trans ?_
            · omega
            · simp; omega
            refine (HExt.eq (by assumption) _ ?_ ?_).trans ?_
            · omega
            · simp; omega
            refine (HExt.eq (by assumption) _ ?_ ?_).trans ?_
            · omega
            · intro h; cases h; done
            refine (HExt.eq (by assumption) _ ?_ ?_).trans ?_
            · omega
            · intro h; cases h; done
            refine (HExt.eq (by assumption) _ ?_ ?_).trans ?_
            · omega
            · simp; omega
            refine (HExt.eq (by assumption) _ ?_ ?_).trans ?_
            · simp; omega
            · intro h; cases h; done
            refine (Hp.at_push_lt ?_).trans ?_
            · omega
            refine (HExt.eq (by assumption) _ ?_ ?_).trans ?_
            · simp; done
            · intro h; cases h; done
            refine Hp.at_put_eq ?_
            · simp; done
            · intro h; cases h; done
            · intro _ h; cases h; done
    · simp; done
    rintro _ Hxa30 ⟨rfl, xa30⟩
    have xa30l := HExt.len xa30; try simp at xa30l
    refine ⟨?_, ?_⟩
    focus
      refine prt_len (BS.ext (by assumption) ?_) ?_
      focus
        refine HExt.tr ?_ (by assumption) ?_
        · assumption
        · intro _ h; cases h; done
      focus
        refine prt_len (BS.ext (by assumption) ?_) ?_
        focus
          refine HExt.tr ?_ (by assumption) ?_
          refine HExt.tr ?_ (by assumption) ?_
          refine HExt.tr ?_ (by assumption) ?_
          refine HExt.tr ?_ (by assumption) ?_
          refine HExt.tr ?_ (by assumption) ?_
          refine HExt.tr ?_ (by assumption) ?_
          refine HExt.tr ?_ (by assumption) ?_
          refine HExt.tr ?_ (by assumption) ?_
          refine HExt.tr ?_ (by assumption) ?_
          refine HExt.push ?_
          · exact HExt.refl _ _
          · intro _ h; cases h; done
          · simp; omega
          · intro _ h; cases h; done
          · intro _ h; cases h; done
          · simp; omega
          · simp; omega
          · intro _ h; cases h; done
          · intro _ h; cases h; done
          · intro _ h; cases h; done
        focus
          · simp; omega
    refine GPcs.reads (by simp only [List.filterMap_cons, List.filterMap_nil, List.getElem?_toArray, List.getElem?_cons_succ, List.getElem?_cons_zero]; rfl) ?_
    refine GQ.take rfl rfl ?_ ?_
    · simp; done
    focus
      refine GQ.r rfl rfl rfl rfl (grd_aeqlK (b := ?_) tab_is rfl rfl rfl rfl rfl rfl ?_ ?_ ?_) ?_ ?_
      rotate_left 1
      · rfl
      · rfl
      · simp [lEq, cEq]; rfl
      · exact .inl rfl
    refine GQ.r rfl rfl rfl rfl (grd_pick_t rfl rfl ?_ rfl) ?_ ?_
    · exact decide_eq_true (by omega)
    · exact .inl rfl
    refine GQ.r rfl rfl rfl rfl (grd_move rfl rfl) ?_ ?_
    · exact .inl rfl
    refine GQ.take rfl rfl ?_ ?_
    · simp; done
    refine GQ.r rfl rfl rfl rfl (grd_move rfl rfl) ?_ ?_
    · exact .inl rfl
    refine GQ.take rfl rfl ?_ ?_
    · simp; done
    refine GQ.r rfl rfl rfl rfl (grd_eql rfl rfl rfl) ?_ ?_
    · exact .inl rfl
    refine GQ.r rfl rfl rfl rfl (grd_pick_t rfl rfl ?_ rfl) ?_ ?_
    · with_reducible rfl
    · exact .inl rfl
    refine GQ.r rfl rfl rfl rfl (grd_assign rfl rfl) ?_ ?_
    · exact .inl rfl
    refine GQ.nil ?_
    refine GPcs.nil ?_
    refine GWP.ret ?_
    refine ⟨_, .one rfl, ?_⟩
    refine ⟨?_, ?_⟩
    · rfl
    refine HExt.tr ?_ (by assumption) ?_
    refine HExt.tr ?_ (by assumption) ?_
    refine HExt.tr ?_ (by assumption) ?_
    refine HExt.tr ?_ (by assumption) ?_
    refine HExt.tr ?_ (by assumption) ?_
    refine HExt.tr ?_ (by assumption) ?_
    refine HExt.tr ?_ (by assumption) ?_
    refine HExt.tr ?_ (by assumption) ?_
    refine HExt.tr ?_ (by assumption) ?_
    refine HExt.push ?_
    refine HExt.tr ?_ (by assumption) ?_
    refine HExt.put ?_ ?_
    refine HExt.push ?_
    · assumption
    · exact .inr (by omega)
    · intro _ h; cases h; done
    · intro _ h; cases h; done
    · simp; omega
    · intro _ h; cases h; done
    · intro _ h; cases h; done
    · simp; omega
    · simp; omega
    · intro _ h; cases h; done
    · intro _ h; cases h; done
    · intro _ h; cases h; done
set_option maxHeartbeats 4000000 in
set_option maxRecDepth 100000 in
set_option linter.unusedSimpArgs false in
theorem g_checkH0 (H : Hp) (a b c d e : Int) (hr : ¬ (okN a ∧ okN b ∧ okN c ∧ okN d ∧ okN e)) : GCalls Try.prog 50 [.iface 92 (.agg #[.int .i64 a, .int .i64 b, .int .i64 c, .int .i64 d, .int .i64 e])] [] H fun v H' => v = .bool true ∧ HExt [] H H' := by
  have hB := fun H => g_sbytesH0 H a b c d e hr
  have hPl := fun H => g_plainH H a b c d e
  have hR := fun H => g_rightNotH H a b c d e hr
  unfold blkV at hPl hR
  have hP := fun (H : Hp) g => g_sput0 H g _ (hB H)
  refine GCalls.body tab_is Try.func50 rfl Try.results50 Try.ntmps50 (by simp) ?_ ?_
  · first | (intro _ h; cases h; done) | (simp; done) | (simp; omega) | (intro i hi; simp at hi; rcases hi with rfl | rfl <;> omega) | (intro i hi; simp at hi; rcases hi with rfl | rfl | rfl <;> omega)
  focus
    refine GWP.seq ?_
    refine GWP.region ?_
    refine GOps.r rfl rfl rfl rfl (grd_assign rfl rfl) ?_
    refine GOps.nil ?_
    refine GWP.seq ?_
    refine GWP.region ?_
    refine GOps.r rfl rfl rfl rfl (grd_move rfl rfl) ?_
    refine GOps.w rfl rfl rfl rfl (gop_call rfl Try.call106 rfl ?_ (hPl _)) ?_
    · intro _ h; cases h; done
    rintro _ Hxb1 ⟨rfl, xb1⟩
    have xb1l := HExt.len xb1; try simp at xb1l
    focus
      refine GOps.w1 rfl rfl rfl rfl (gop_alloc' (id := ?_) ?_ tab_is rfl rfl ?_) ?_
      rotate_left 1
      · rfl
      · decide
    focus
      refine GOps.s rfl rfl rfl (gop_storeC (b := ?_) (cs := ?_) tab_is rfl rfl ?_ rfl rfl ?_ ?_ ?_ ?_ ?_ ?_) ?_
      rotate_left 2
      · rfl
      · rfl
      · exact Hp.at_push_eq
      · rfl
      · exact Nat.le_of_ble_eq_true rfl
      · exact .inr (by omega)
      · simp [splice, Value.cells]; rfl
    refine GOps.nil ?_
    refine GWP.seq ?_
    refine GWP.region ?_
    refine GOps.r rfl rfl rfl rfl (grd_move rfl rfl) ?_
    refine GOps.w rfl rfl rfl rfl (gop_call rfl Try.call49 rfl ?_ (hB _)) ?_
    · intro _ h; cases h; done
    rintro _ Hxb2 ⟨rfl, xb2⟩
    have xb2l := HExt.len xb2; try simp at xb2l
    refine GOps.r rfl rfl rfl rfl (grd_move rfl rfl) ?_
    focus
      refine GOps.r rfl rfl rfl rfl (grd_extract (v := ?_) rfl rfl ?_) ?_
      rotate_left 1
      · simp only [List.getElem?_toArray, List.getElem?_cons_zero, List.getElem?_cons_succ]; rfl
    focus
      refine GOps.r rfl rfl rfl rfl (grd_extract (v := ?_) rfl rfl ?_) ?_
      rotate_left 1
      · simp only [List.getElem?_toArray, List.getElem?_cons_zero, List.getElem?_cons_succ]; rfl
    refine GOps.r rfl rfl rfl rfl (grd_assign rfl rfl) ?_
    refine GOps.r rfl rfl rfl rfl (grd_assign rfl rfl) ?_
    refine GOps.nil ?_
    refine GWP.seq ?_
    refine GWP.region ?_
    focus
      refine GOps.r rfl rfl rfl rfl (grd_build (cs := ?_) tab_is rfl rfl rfl ?_ rfl ?_) ?_
      rotate_left 1
      · decide
      · simp [gfill, gsets, Value.cells]; rfl
    refine GOps.w1 rfl rfl rfl rfl (gop_call rfl Try.call15 rfl ?_ (g_pnew0 _)) ?_
    · intro _ h; cases h; done
    refine GOps.w rfl rfl rfl rfl (gop_call rfl Try.call27 rfl ?_ (g_tnew0 _ _)) ?_
    · intro _ h; cases h; done
    rintro _ Hxb6 ⟨⟨gb3, rfl, lb4, tb5⟩, xb6⟩
    simp at lb4
    have xb6l := HExt.len xb6; try simp at xb6l
    have tb5q := Hp.at_lt tb5
    refine GOps.r rfl rfl rfl rfl (grd_move rfl rfl) ?_
    focus
      refine GOps.r rfl rfl rfl rfl (grd_extract (v := ?_) rfl rfl ?_) ?_
      rotate_left 1
      · simp only [List.getElem?_toArray, List.getElem?_cons_zero, List.getElem?_cons_succ]; rfl
    focus
      refine GOps.r rfl rfl rfl rfl (grd_extract (v := ?_) rfl rfl ?_) ?_
      rotate_left 1
      · simp only [List.getElem?_toArray, List.getElem?_cons_zero, List.getElem?_cons_succ]; rfl
    refine GOps.r rfl rfl rfl rfl (grd_assign rfl rfl) ?_
    refine GOps.r rfl rfl rfl rfl (grd_assign rfl rfl) ?_
    refine GOps.nil ?_
    refine GWP.seq ?_
    refine GWP.region ?_
    refine GOps.r rfl rfl rfl rfl (grd_move rfl rfl) ?_
    refine GOps.r rfl rfl rfl rfl (grd_move rfl rfl) ?_
    refine GOps.w rfl rfl rfl rfl (gop_call rfl Try.call107 rfl ?_ (hP _ _)) ?_
    · intro _ h; cases h; done
    rintro _ Hxb7 ⟨rfl, xb7⟩
    have xb7l := HExt.len xb7; try simp at xb7l
    refine GOps.r rfl rfl rfl rfl (grd_assign rfl rfl) ?_
    refine GOps.nil ?_
    refine GWP.seq ?_
    refine GWP.seq ?_
    refine GWP.region ?_
    focus
      refine GOps.r rfl rfl rfl rfl (grd_loadNK (b := ?_) (cs := ?_) tab_is rfl rfl rfl rfl ?_ ?_ ?_) ?_
      rotate_left 2
      refine (HExt.eq (by assumption) _ ?_ ?_).trans ?_
      · omega
      · intro h; cases h; done
      refine (HExt.eq (by assumption) _ ?_ ?_).trans ?_
      · simp; omega
      · intro h; cases h; done
      refine (Hp.at_push_lt ?_).trans ?_
      · omega
      refine (HExt.eq (by assumption) _ ?_ ?_).trans ?_
      · simp; done
      · intro h; cases h; done
      refine Hp.at_put_eq ?_
      · simp; done
      · exact Nat.le_of_ble_eq_true rfl
      · simp [Value.cells]; rfl
    refine GOps.w rfl rfl rfl rfl (gop_call rfl Try.call108 rfl ?_ (hR _)) ?_
    · intro _ h; cases h; done
    rintro _ Hxb8 ⟨rfl, xb8⟩
    have xb8l := HExt.len xb8; try simp at xb8l
    refine GOps.r rfl rfl rfl rfl (grd_not rfl rfl) ?_
    refine GOps.nil ?_
    refine GWP.cond_t rfl ?_ ?_
    · simp; done
    refine GWP.seq ?_
    refine GWP.region ?_
    refine GOps.r rfl rfl rfl rfl (grd_move rfl rfl) ?_
    refine GOps.r rfl rfl rfl rfl (grd_eql rfl rfl rfl) ?_
    refine GOps.r rfl rfl rfl rfl (grd_move rfl rfl) ?_
    refine GOps.take rfl rfl ?_ ?_
    · simp; done
    refine GOps.r rfl rfl rfl rfl (grd_move rfl rfl) ?_
    refine GOps.take rfl rfl ?_ ?_
    · simp; done
    refine GOps.r rfl rfl rfl rfl (grd_len tab_is rfl rfl rfl rfl rfl) ?_
    refine GOps.take rfl rfl ?_ ?_
    · simp; done
    refine GOps.r rfl rfl rfl rfl (grd_eql rfl rfl rfl) ?_
    refine GOps.r rfl rfl rfl rfl (grd_pick_t rfl rfl ?_ rfl) ?_
    · exact decide_eq_true (by omega)
    refine GOps.r rfl rfl rfl rfl (grd_move rfl rfl) ?_
    refine GOps.take rfl rfl ?_ ?_
    · simp; done
    refine GOps.r rfl rfl rfl rfl (grd_move rfl rfl) ?_
    refine GOps.take rfl rfl ?_ ?_
    · simp; done
    refine GOps.r rfl rfl rfl rfl (grd_eql rfl rfl rfl) ?_
    refine GOps.r rfl rfl rfl rfl (grd_pick_t rfl rfl ?_ rfl) ?_
    · exact decide_eq_true (by omega)
    refine GOps.r rfl rfl rfl rfl (grd_move rfl rfl) ?_
    refine GOps.take rfl rfl ?_ ?_
    · simp; done
    refine GOps.r rfl rfl rfl rfl (grd_move rfl rfl) ?_
    refine GOps.take rfl rfl ?_ ?_
    · simp; done
    focus
      refine GOps.w1 rfl rfl rfl rfl (gop_call rfl Try.call30 rfl ?_ (g_tlen0 _ _ ?_ ?_)) ?_
      · intro _ h; cases h; done
      rotate_left 1
      refine (HExt.eq (by assumption) _ ?_ ?_).trans ?_
      · omega
      · intro h; cases h; done
      refine (HExt.eq (by assumption) _ ?_ ?_).trans ?_
      · omega
      · intro h; cases h; done
      · assumption
    refine GOps.take rfl rfl ?_ ?_
    · simp; done
    refine GOps.r rfl rfl rfl rfl (grd_eql rfl rfl rfl) ?_
    refine GOps.r rfl rfl rfl rfl (grd_pick_t rfl rfl ?_ rfl) ?_
    · exact decide_eq_true (by omega)
    refine GOps.r rfl rfl rfl rfl (grd_assign rfl rfl) ?_
    refine GOps.nil ?_
    refine GWP.ret ?_
    refine ⟨_, .one rfl, ?_⟩
    refine ⟨?_, ?_⟩
    · rfl
    refine HExt.tr ?_ (by assumption) ?_
    refine HExt.tr ?_ (by assumption) ?_
    refine HExt.tr ?_ (by assumption) ?_
    refine HExt.push ?_
    refine HExt.tr ?_ (by assumption) ?_
    refine HExt.put ?_ ?_
    refine HExt.push ?_
    · assumption
    · exact .inr (by omega)
    · intro _ h; cases h; done
    · intro _ h; cases h; done
    · intro _ h; cases h; done
    · intro _ h; cases h; done
set_option maxHeartbeats 4000000 in
set_option maxRecDepth 100000 in
set_option linter.unusedSimpArgs false in
theorem g_checkT (H : Hp) (a b c d e : Nat) (l : Bool) (hel : e = if l then 1 else 0) (h1 : a ≤ 1073741824) (h2 : b ≤ 1073741824) (h3 : c ≤ 1073741824) (h4 : d ≤ 1073741824) : GCalls Try.prog 50 [.iface 94 (.agg #[.int .i64 (a : Int), .int .i64 (b : Int), .int .i64 (c : Int), .int .i64 (d : Int), .bool l])] [] H fun v H' => v = .bool true ∧ HExt [] H H' := by
  have h6 : e ≤ 1 := by
    subst hel
    cases l <;> simp
  have h5 : e ≤ 1073741824 := by omega
  have hel2 : (if l then (1 : Int) else 0) = (e : Int) := by
    subst hel
    cases l <;> rfl
  have hd : decide (e = 1) = l := by
    subst hel
    cases l <;> rfl
  have hseg := segO_fin h1 h2 h3 h4 h5 h6
  rw [hd] at hseg
  have hlen := segL_len 84 a b c d e h1 h2 h3 h4 h5
  have hB := fun H => g_sbytesT H a b c d e l hel h1 h2 h3 h4 h5
  have hPl := fun H => g_plainT H (a : Int) b c d l
  rw [hel2] at hPl
  have hR := fun H => g_rightN H 84 (a : Int) b c d e (by decide) ⟨by omega, by omega⟩ ⟨by omega, by omega⟩ ⟨by omega, by omega⟩ ⟨by omega, by omega⟩ ⟨by omega, by omega⟩
  have hRB := fun H => g_rbytesT H a b c d e h1 h2 h3 h4 h5
  clear hel hel2 hd
  generalize segL 84 a b c d e = X at hseg hlen hB hRB
  unfold blkV at hPl hRB
  have hS0 := fun H p n c hb hn => g_sread H p n c (sealL (X)) hb hn
  rw [hseg] at hS0
  have hG0 := fun H g q j cj p c cp h => (g_sget1 H g q (sealL (X)) (by rw [sealL_length]; omega) j cj p c cp h).mono fun v H' k => (⟨k.1, k.2.1, T1.bsk h k.2.2, k.2.2⟩ : SegV H' v (segO (sealL (X))) ∧ T1 H' g q 1 (sealL (X)) j cj p c cp ∧ BSk H H' ∧ HExt [g] H H')
  have hSk := fun H g q a j cj p c cp h => (g_Seek0 H g q a (sealL (X)) j cj p c cp h).mono fun v H' k => (⟨k.1, k.2.1, T1.bsk h k.2.2, k.2.2⟩ : v = .int .i64 0 ∧ T1 H' g q 0 (sealL (X)) j cj p c cp ∧ BSk H H' ∧ HExt [g] H H')
  rw [hseg] at hG0
  simp only [SegV] at hS0 hG0
  have hP := fun (H : Hp) g q h hq (hb : True) => g_sput H g q h hq _ (X) (by omega) (hB H)
  refine GCalls.body tab_is Try.func50 rfl Try.results50 Try.ntmps50 (by simp) ?_ ?_
  · first | (intro _ h; cases h; done) | (simp; done) | (simp; omega) | (intro i hi; simp at hi; rcases hi with rfl | rfl <;> omega) | (intro i hi; simp at hi; rcases hi with rfl | rfl | rfl <;> omega)
  focus
    refine GWP.seq ?_
    refine GWP.region ?_
    refine GOps.r rfl rfl rfl rfl (grd_assign rfl rfl) ?_
    refine GOps.nil ?_
    refine GWP.seq ?_
    refine GWP.region ?_
    refine GOps.r rfl rfl rfl rfl (grd_move rfl rfl) ?_
    refine GOps.w rfl rfl rfl rfl (gop_call rfl Try.call106 rfl ?_ (hPl _)) ?_
    · intro _ h; cases h; done
    rintro _ Hxc1 ⟨rfl, xc1⟩
    have xc1l := HExt.len xc1; try simp at xc1l
    focus
      refine GOps.w1 rfl rfl rfl rfl (gop_alloc' (id := ?_) ?_ tab_is rfl rfl ?_) ?_
      rotate_left 1
      · rfl
      · decide
    focus
      refine GOps.s rfl rfl rfl (gop_storeC (b := ?_) (cs := ?_) tab_is rfl rfl ?_ rfl rfl ?_ ?_ ?_ ?_ ?_ ?_) ?_
      rotate_left 2
      · rfl
      · rfl
      · exact Hp.at_push_eq
      · rfl
      · exact Nat.le_of_ble_eq_true rfl
      · exact .inr (by omega)
      · simp [splice, Value.cells]; rfl
    refine GOps.nil ?_
    refine GWP.seq ?_
    refine GWP.region ?_
    refine GOps.r rfl rfl rfl rfl (grd_move rfl rfl) ?_
    refine GOps.w rfl rfl rfl rfl (gop_call rfl Try.call49 rfl ?_ (hB _)) ?_
    · intro _ h; cases h; done
    rintro _ Hxc5 ⟨⟨pc2, cc3, rfl, bc4⟩, xc5⟩
    have xc5l := HExt.len xc5; try simp at xc5l
    refine GOps.r rfl rfl rfl rfl (grd_move rfl rfl) ?_
    focus
      refine GOps.r rfl rfl rfl rfl (grd_extract (v := ?_) rfl rfl ?_) ?_
      rotate_left 1
      · simp only [List.getElem?_toArray, List.getElem?_cons_zero, List.getElem?_cons_succ]; rfl
    focus
      refine GOps.r rfl rfl rfl rfl (grd_extract (v := ?_) rfl rfl ?_) ?_
      rotate_left 1
      · simp only [List.getElem?_toArray, List.getElem?_cons_zero, List.getElem?_cons_succ]; rfl
    refine GOps.r rfl rfl rfl rfl (grd_assign rfl rfl) ?_
    refine GOps.r rfl rfl rfl rfl (grd_assign rfl rfl) ?_
    refine GOps.nil ?_
    refine GWP.seq ?_
    refine GWP.region ?_
    focus
      refine GOps.r rfl rfl rfl rfl (grd_build (cs := ?_) tab_is rfl rfl rfl ?_ rfl ?_) ?_
      rotate_left 1
      · decide
      · simp [gfill, gsets, Value.cells]; rfl
    refine GOps.w1 rfl rfl rfl rfl (gop_call rfl Try.call15 rfl ?_ (g_pnew0 _)) ?_
    · intro _ h; cases h; done
    refine GOps.w rfl rfl rfl rfl (gop_call rfl Try.call27 rfl ?_ (g_tnew0 _ _)) ?_
    · intro _ h; cases h; done
    rintro _ Hxc9 ⟨⟨gc6, rfl, lc7, tc8⟩, xc9⟩
    simp at lc7
    have xc9l := HExt.len xc9; try simp at xc9l
    have tc8q := Hp.at_lt tc8
    refine GOps.r rfl rfl rfl rfl (grd_move rfl rfl) ?_
    focus
      refine GOps.r rfl rfl rfl rfl (grd_extract (v := ?_) rfl rfl ?_) ?_
      rotate_left 1
      · simp only [List.getElem?_toArray, List.getElem?_cons_zero, List.getElem?_cons_succ]; rfl
    focus
      refine GOps.r rfl rfl rfl rfl (grd_extract (v := ?_) rfl rfl ?_) ?_
      rotate_left 1
      · simp only [List.getElem?_toArray, List.getElem?_cons_zero, List.getElem?_cons_succ]; rfl
    refine GOps.r rfl rfl rfl rfl (grd_assign rfl rfl) ?_
    refine GOps.r rfl rfl rfl rfl (grd_assign rfl rfl) ?_
    refine GOps.nil ?_
    refine GWP.seq ?_
    refine GWP.region ?_
    refine GOps.r rfl rfl rfl rfl (grd_move rfl rfl) ?_
    refine GOps.r rfl rfl rfl rfl (grd_move rfl rfl) ?_
    focus
      refine GOps.w rfl rfl rfl rfl (gop_call rfl Try.call107 rfl ?_ (hP _ _ ?_ ?_ ?_ ?_)) ?_
      rotate_left 1
      rotate_left 1
      · assumption
      refine (HExt.eq (by assumption) _ ?_ ?_).trans ?_
      · simp; done
      · intro h; cases h; done
      · exact Hp.at_push_eq
      · trivial
      rotate_left 1
      · simp [Ctx.may]; omega
    rintro _ Hxc16 ⟨rfl, ⟨jc10, dc11, pc12, cc13, ec14, tc15⟩, xc16⟩
    have xc16l := HExt.len xc16; try simp at xc16l
    refine GOps.r rfl rfl rfl rfl (grd_assign rfl rfl) ?_
    refine GOps.nil ?_
    refine GWP.seq ?_
    refine GWP.seq ?_
    refine GWP.region ?_
    focus
      refine GOps.r rfl rfl rfl rfl (grd_loadNK (b := ?_) (cs := ?_) tab_is rfl rfl rfl rfl ?_ ?_ ?_) ?_
      rotate_left 2
      refine (HExt.eq (by assumption) _ ?_ ?_).trans ?_
      · omega
      · simp; omega
      refine (HExt.eq (by assumption) _ ?_ ?_).trans ?_
      · simp; omega
      · intro h; cases h; done
      refine (Hp.at_push_lt ?_).trans ?_
      · omega
      refine (HExt.eq (by assumption) _ ?_ ?_).trans ?_
      · simp; done
      · intro h; cases h; done
      refine Hp.at_put_eq ?_
      · simp; done
      · exact Nat.le_of_ble_eq_true rfl
      · simp [Value.cells]; rfl
    refine GOps.w rfl rfl rfl rfl (gop_call rfl Try.call108 rfl ?_ (hR _)) ?_
    · intro _ h; cases h; done
    rintro _ Hxc17 ⟨rfl, xc17⟩
    have xc17l := HExt.len xc17; try simp at xc17l
    refine GOps.r rfl rfl rfl rfl (grd_not rfl rfl) ?_
    refine GOps.nil ?_
    refine GWP.cond_f rfl ?_ ?_
    · simp; done
    refine GWP.skip ?_
    refine GWP.seq ?_
    refine GWP.region ?_
    refine GOps.r rfl rfl rfl rfl (grd_move rfl rfl) ?_
    refine GOps.w rfl rfl rfl rfl (gop_call rfl Try.call109 rfl ?_ (hS0 _ _ _ _ ?_ ?_)) ?_
    · intro _ h; cases h; done
    focus
      refine BS.ext (by assumption) ?_
      refine HExt.tr ?_ (by assumption) ?_
      refine HExt.tr ?_ (by assumption) ?_
      refine HExt.tr ?_ (by assumption) ?_
      refine HExt.push ?_
      · exact HExt.refl _ _
      · intro _ h; cases h; done
      · simp; omega
      · intro _ h; cases h; done
    · omega
    rintro _ Hxc18 ⟨rfl, xc18⟩
    have xc18l := HExt.len xc18; try simp at xc18l
    refine GOps.r rfl rfl rfl rfl (grd_move rfl rfl) ?_
    focus
      refine GOps.r rfl rfl rfl rfl (grd_extract (v := ?_) rfl rfl ?_) ?_
      rotate_left 1
      · simp only [List.getElem?_toArray, List.getElem?_cons_zero, List.getElem?_cons_succ]; rfl
    focus
      refine GOps.r rfl rfl rfl rfl (grd_extract (v := ?_) rfl rfl ?_) ?_
      rotate_left 1
      · simp only [List.getElem?_toArray, List.getElem?_cons_zero, List.getElem?_cons_succ]; rfl
    refine GOps.r rfl rfl rfl rfl (grd_assign rfl rfl) ?_
    refine GOps.r rfl rfl rfl rfl (grd_assign rfl rfl) ?_
    refine GOps.nil ?_
    refine GWP.seq ?_
    refine GWP.region ?_
    refine GOps.r rfl rfl rfl rfl (grd_move rfl rfl) ?_
    focus
      refine GOps.w rfl rfl rfl rfl (gop_call rfl Try.call84 rfl ?_ (hSk _ _ ?_ ?_ ?_ ?_ ?_ ?_ ?_ ?_)) ?_
      · simp [Ctx.may]; omega
      rotate_left 7
      · exact T1.ext (T1.ext (by assumption) (by assumption)) (by assumption)
    rintro _ Hxc21 ⟨rfl, tc19, kc20, xc21⟩
    have xc21l := HExt.len xc21; try simp at xc21l
    refine GOps.nil ?_
    refine GWP.seq ?_
    refine GWP.region ?_
    refine GOps.r rfl rfl rfl rfl (grd_move rfl rfl) ?_
    focus
      refine GOps.w rfl rfl rfl rfl (gop_call rfl Try.call110 rfl ?_ (hG0 _ _ ?_ ?_ ?_ ?_ ?_ ?_ ?_)) ?_
      · simp [Ctx.may]; omega
      rotate_left 6
      · assumption
    rintro _ Hxc24 ⟨rfl, tc22, kc23, xc24⟩
    have xc24l := HExt.len xc24; try simp at xc24l
    refine GOps.r rfl rfl rfl rfl (grd_move rfl rfl) ?_
    focus
      refine GOps.r rfl rfl rfl rfl (grd_extract (v := ?_) rfl rfl ?_) ?_
      rotate_left 1
      · simp only [List.getElem?_toArray, List.getElem?_cons_zero, List.getElem?_cons_succ]; rfl
    focus
      refine GOps.r rfl rfl rfl rfl (grd_extract (v := ?_) rfl rfl ?_) ?_
      rotate_left 1
      · simp only [List.getElem?_toArray, List.getElem?_cons_zero, List.getElem?_cons_succ]; rfl
    refine GOps.r rfl rfl rfl rfl (grd_assign rfl rfl) ?_
    refine GOps.r rfl rfl rfl rfl (grd_assign rfl rfl) ?_
    refine GOps.nil ?_
    refine GWP.seq ?_
    refine GWP.region ?_
    refine GOps.r rfl rfl rfl rfl (grd_move rfl rfl) ?_
    focus
      refine GOps.w1 rfl rfl rfl rfl (gop_call rfl Try.call110 rfl ?_ (g_sget2 _ _ ?_ ?_ ?_ ?_ ?_ ?_ ?_ ?_)) ?_
      · intro _ h; cases h; done
      rotate_left 7
      · assumption
    refine GOps.r rfl rfl rfl rfl (grd_move rfl rfl) ?_
    focus
      refine GOps.r rfl rfl rfl rfl (grd_extract (v := ?_) rfl rfl ?_) ?_
      rotate_left 1
      · simp only [List.getElem?_toArray, List.getElem?_cons_zero, List.getElem?_cons_succ]; rfl
    focus
      refine GOps.r rfl rfl rfl rfl (grd_extract (v := ?_) rfl rfl ?_) ?_
      rotate_left 1
      · simp only [List.getElem?_toArray, List.getElem?_cons_zero, List.getElem?_cons_succ]; rfl
    refine GOps.r rfl rfl rfl rfl (grd_assign rfl rfl) ?_
    refine GOps.r rfl rfl rfl rfl (grd_assign rfl rfl) ?_
    refine GOps.nil ?_
    refine GWP.seq ?_
    refine GWP.draw [.reads [0, 1, 2, 3, 5, 4], .write 6, .reads [7, 8, 9, 10, 11, 12, 13, 14, 15, 16, 17, 18, 19, 21], .write 20, .reads [22, 23, 24, 25, 26, 27, 28, 29, 31], .write 30, .reads [32, 33, 34, 35, 36, 37, 38]] false (blkOf pc2 ++ [List.length Hxc1]) (by kernel_rfl) (by kernel_rfl) (by kernel_rfl) (by kernel_rfl) ?_ ?_
    focus
      refine prt_len (BS.ext (by assumption) ?_) ?_
      focus
        refine HExt.tr ?_ (by assumption) ?_
        refine HExt.tr ?_ (by assumption) ?_
        refine HExt.tr ?_ (by assumption) ?_
        refine HExt.tr ?_ (by assumption) ?_
        refine HExt.tr ?_ (by assumption) ?_
        refine HExt.tr ?_ (by assumption) ?_
        refine HExt.push ?_
        · exact HExt.refl _ _
        · intro _ h; cases h; done
        · simp; omega
        · intro _ h; cases h; done
        · intro _ h; cases h; done
        · simp; omega
        · simp; omega
      focus
        · simp; omega
    refine GPcs.reads (by simp only [List.filterMap_cons, List.filterMap_nil, List.getElem?_toArray, List.getElem?_cons_succ, List.getElem?_cons_zero]; rfl) ?_
    refine GQ.r rfl rfl rfl rfl (grd_move rfl rfl) ?_ ?_
    · refine .inr ?_; simp; done
    refine GQ.r rfl rfl rfl rfl (grd_eql rfl rfl rfl) ?_ ?_
    · refine .inr ?_; simp; done
    refine GQ.r rfl rfl rfl rfl (grd_move rfl rfl) ?_ ?_
    · refine .inr ?_; simp; done
    refine GQ.take rfl rfl ?_ ?_
    · simp; done
    refine GQ.r rfl rfl rfl rfl (grd_move rfl rfl) ?_ ?_
    · refine .inr ?_; simp; done
    refine GQ.take rfl rfl ?_ ?_
    · simp; done
    focus
      refine GQ.r rfl rfl rfl rfl (grd_loadNK (b := ?_) (cs := ?_) tab_is rfl rfl rfl rfl ?_ ?_ ?_) ?_ ?_
      rotate_left 2
      refine (HExt.eq (by assumption) _ ?_ ?_).trans ?_
      · omega
      · simp; omega
      refine (HExt.eq (by assumption) _ ?_ ?_).trans ?_
      · omega
      · simp; omega
      refine (HExt.eq (by assumption) _ ?_ ?_).trans ?_
      · omega
      · intro h; cases h; done
      refine (HExt.eq (by assumption) _ ?_ ?_).trans ?_
      · omega
      · intro h; cases h; done
      refine (HExt.eq (by assumption) _ ?_ ?_).trans ?_
      · omega
      · simp; omega
      refine (HExt.eq (by assumption) _ ?_ ?_).trans ?_
      · simp; omega
      · intro h; cases h; done
      refine (Hp.at_push_lt ?_).trans ?_
      · omega
      refine (HExt.eq (by assumption) _ ?_ ?_).trans ?_
      · simp; done
      · intro h; cases h; done
      refine Hp.at_put_eq ?_
      · simp; done
      · exact Nat.le_of_ble_eq_true rfl
      · simp [Value.cells]; rfl
      · refine .inr ?_; simp; done
    refine GQ.take rfl rfl ?_ ?_
    · simp; done
    focus
      refine GQ.r rfl rfl rfl rfl (grd_strBP (L := ?_) tab_is rfl rfl rfl rfl rfl rfl rfl rfl ?_) ?_ ?_
      rotate_left 1
      focus
        refine BS.ext (by assumption) ?_
        refine HExt.tr ?_ (by assumption) ?_
        refine HExt.tr ?_ (by assumption) ?_
        refine HExt.tr ?_ (by assumption) ?_
        refine HExt.tr ?_ (by assumption) ?_
        refine HExt.tr ?_ (by assumption) ?_
        refine HExt.tr ?_ (by assumption) ?_
        refine HExt.push ?_
        · exact HExt.refl _ _
        · intro _ h; cases h; done
        · simp; omega
        · intro _ h; cases h; done
        · intro _ h; cases h; done
        · simp; omega
        · simp; omega
      · refine .inr ?_; intro i hi; simp [hi]
    refine GQ.nil ?_
    refine GPcs.writeD false rfl rfl ?_ rfl rfl (gopf_call rfl Try.call111 rfl ?_ (hRB _)) rfl ?_ ?_ ?_
    · simp; done
    · intro _ h; cases h; done
    · intro _ h; cases h; done
    focus
      refine prt_app (BS.ext (by assumption) ?_) ?_ ?_
      focus
        refine HExt.tr ?_ (by assumption) ?_
        refine HExt.tr ?_ (by assumption) ?_
        refine HExt.tr ?_ (by assumption) ?_
        refine HExt.tr ?_ (by assumption) ?_
        refine HExt.tr ?_ (by assumption) ?_
        refine HExt.tr ?_ (by assumption) ?_
        refine HExt.push ?_
        · exact HExt.refl _ _
        · intro _ h; cases h; done
        · simp; omega
        · intro _ h; cases h; done
        · intro _ h; cases h; done
        · simp; omega
        · simp; omega
      focus
        · intro _ h; cases h; done
      focus
        focus
          refine List.forall_mem_cons.2 ⟨⟨⟨?_, ?_⟩, ?_⟩, ?_⟩
          rotate_left 1
          refine (HExt.eq (by assumption) _ ?_ ?_).trans ?_
          · omega
          · simp; omega
          refine (HExt.eq (by assumption) _ ?_ ?_).trans ?_
          · omega
          · simp; omega
          refine (HExt.eq (by assumption) _ ?_ ?_).trans ?_
          · omega
          · intro h; cases h; done
          refine (HExt.eq (by assumption) _ ?_ ?_).trans ?_
          · omega
          · intro h; cases h; done
          refine (HExt.eq (by assumption) _ ?_ ?_).trans ?_
          · omega
          · simp; omega
          refine (HExt.eq (by assumption) _ ?_ ?_).trans ?_
          · simp; omega
          · intro h; cases h; done
          refine (Hp.at_push_lt ?_).trans ?_
          · omega
          refine (HExt.eq (by assumption) _ ?_ ?_).trans ?_
          · simp; done
          · intro h; cases h; done
          refine Hp.at_put_eq ?_
          · simp; done
          · intro h; cases h; done
          · intro _ h; cases h; done
    rintro _ Hxc28 ⟨⟨pc25, cc26, rfl, bc27⟩, xc28⟩
    have xc28l := HExt.len xc28; try simp at xc28l
    refine ⟨blkOf pc25 ++ ((blkOf pc2 ++ [List.length Hxc1])), ?_, ?_, ?_⟩
    · intro i hi; simp [hi]
    focus
      refine prt_len (by assumption) ?_
      focus
        refine prt_len (BS.ext (by assumption) ?_) ?_
        focus
          refine HExt.tr ?_ (by assumption) ?_
          refine HExt.tr ?_ (by assumption) ?_
          refine HExt.tr ?_ (by assumption) ?_
          refine HExt.tr ?_ (by assumption) ?_
          refine HExt.tr ?_ (by assumption) ?_
          refine HExt.tr ?_ (by assumption) ?_
          refine HExt.tr ?_ (by assumption) ?_
          refine HExt.push ?_
          · exact HExt.refl _ _
          · intro _ h; cases h; done
          · simp; omega
          · intro _ h; cases h; done
          · intro _ h; cases h; done
          · simp; omega
          · simp; omega
          · intro _ h; cases h; done
        focus
          · simp; omega
    refine GPcs.reads (by simp only [List.filterMap_cons, List.filterMap_nil, List.getElem?_toArray, List.getElem?_cons_succ, List.getElem?_cons_zero]; rfl) ?_
    refine GQ.take rfl rfl ?_ ?_
    · simp; done
    focus
      refine GQ.r rfl rfl rfl rfl (grd_strBP (L := ?_) tab_is rfl rfl rfl rfl rfl rfl rfl rfl ?_) ?_ ?_
      rotate_left 1
      · assumption
      · refine .inr ?_; intro i hi; simp [hi]
    refine GQ.take rfl rfl ?_ ?_
    · simp; done
    refine GQ.r rfl rfl rfl rfl (grd_seql' rfl rfl rfl) ?_ ?_
    · refine .inr ?_; simp; done
    refine GQ.r rfl rfl rfl rfl (grd_pick_t rfl rfl ?_ rfl) ?_ ?_
    · exact decide_eq_true (by omega)
    · refine .inr ?_; simp; done
    refine GQ.r rfl rfl rfl rfl (grd_move rfl rfl) ?_ ?_
    · refine .inr ?_; simp; done
    refine GQ.take rfl rfl ?_ ?_
    · simp; done
    refine GQ.r rfl rfl rfl rfl (grd_move rfl rfl) ?_ ?_
    · refine .inr ?_; simp; done
    refine GQ.take rfl rfl ?_ ?_
    · simp; done
    refine GQ.r rfl rfl rfl rfl (grd_eql rfl rfl rfl) ?_ ?_
    · refine .inr ?_; simp; done
    refine GQ.r rfl rfl rfl rfl (grd_pick_t rfl rfl ?_ rfl) ?_ ?_
    · simp; done
    · refine .inr ?_; simp; done
    refine GQ.r rfl rfl rfl rfl (grd_move rfl rfl) ?_ ?_
    · refine .inr ?_; simp; done
    refine GQ.take rfl rfl ?_ ?_
    · simp; done
    refine GQ.r rfl rfl rfl rfl (grd_move rfl rfl) ?_ ?_
    · refine .inr ?_; simp; done
    refine GQ.take rfl rfl ?_ ?_
    · simp; done
    refine GQ.r rfl rfl rfl rfl (grd_eql rfl rfl rfl) ?_ ?_
    · refine .inr ?_; simp; done
    refine GQ.r rfl rfl rfl rfl (grd_pick_t rfl rfl ?_ rfl) ?_ ?_
    · exact decide_eq_true (by omega)
    · refine .inr ?_; simp; done
    refine GQ.r rfl rfl rfl rfl (grd_move rfl rfl) ?_ ?_
    · refine .inr ?_; simp; done
    refine GQ.take rfl rfl ?_ ?_
    · simp; done
    refine GQ.r rfl rfl rfl rfl (grd_move rfl rfl) ?_ ?_
    · refine .inr ?_; simp; done
    refine GQ.take rfl rfl ?_ ?_
    · simp; done
    focus
      refine GQ.r rfl rfl rfl rfl (grd_loadNK (b := ?_) (cs := ?_) tab_is rfl rfl rfl rfl ?_ ?_ ?_) ?_ ?_
      rotate_left 2
      refine (HExt.eq (by assumption) _ ?_ ?_).trans ?_
      · omega
      · intro h; cases h; done
      refine (HExt.eq (by assumption) _ ?_ ?_).trans ?_
      · omega
      · simp; omega
      refine (HExt.eq (by assumption) _ ?_ ?_).trans ?_
      · omega
      · simp; omega
      refine (HExt.eq (by assumption) _ ?_ ?_).trans ?_
      · omega
      · intro h; cases h; done
      refine (HExt.eq (by assumption) _ ?_ ?_).trans ?_
      · omega
      · intro h; cases h; done
      refine (HExt.eq (by assumption) _ ?_ ?_).trans ?_
      · omega
      · simp; omega
      refine (HExt.eq (by assumption) _ ?_ ?_).trans ?_
      · simp; omega
      · intro h; cases h; done
      refine (Hp.at_push_lt ?_).trans ?_
      · omega
      refine (HExt.eq (by assumption) _ ?_ ?_).trans ?_
      · simp; done
      · intro h; cases h; done
      refine Hp.at_put_eq ?_
      · simp; done
      · exact Nat.le_of_ble_eq_true rfl
      · simp [Value.cells]; rfl
      · refine .inr ?_; simp; done
    refine GQ.nil ?_
    refine GPcs.writeD false rfl rfl ?_ rfl rfl (gopf_call rfl Try.call106 rfl ?_ (hPl _)) rfl ?_ ?_ ?_
    · simp; done
    · intro _ h; cases h; done
    · intro _ h; cases h; done
    focus
      refine prt_app (by assumption) ?_ ?_
      focus
        · intro _ h; cases h; done
      focus
        refine prt_app (BS.ext (by assumption) ?_) ?_ ?_
        focus
          refine HExt.tr ?_ (by assumption) ?_
          refine HExt.tr ?_ (by assumption) ?_
          refine HExt.tr ?_ (by assumption) ?_
          refine HExt.tr ?_ (by assumption) ?_
          refine HExt.tr ?_ (by assumption) ?_
          refine HExt.tr ?_ (by assumption) ?_
          refine HExt.tr ?_ (by assumption) ?_
          refine HExt.push ?_
          · exact HExt.refl _ _
          · intro _ h; cases h; done
          · simp; omega
          · intro _ h; cases h; done
          · intro _ h; cases h; done
          · simp; omega
          · simp; omega
          · intro _ h; cases h; done
        focus
          · intro _ h; cases h; done
        focus
          focus
            refine List.forall_mem_cons.2 ⟨⟨⟨?_, ?_⟩, ?_⟩, ?_⟩
            rotate_left 1
            refine (HExt.eq (by assumption) _ ?_ ?_).trans ?_
            · omega
            · intro h; cases h; done
            refine (HExt.eq (by assumption) _ ?_ ?_).trans ?_
            · omega
            · simp; omega
            refine (HExt.eq (by assumption) _ ?_ ?_).trans ?_
            · omega
            · simp; omega
            refine (HExt.eq (by assumption) _ ?_ ?_).trans ?_
            · omega
            · intro h; cases h; done
            refine (HExt.eq (by assumption) _ ?_ ?_).trans ?_
            · omega
            · intro h; cases h; done
            refine (HExt.eq (by assumption) _ ?_ ?_).trans ?_
            · omega
            · simp; omega
            refine (HExt.eq (by assumption) _ ?_ ?_).trans ?_
            · simp; omega
            · intro h; cases h; done
            refine (Hp.at_push_lt ?_).trans ?_
            · omega
            refine (HExt.eq (by assumption) _ ?_ ?_).trans ?_
            · simp; done
            · intro h; cases h; done
            refine Hp.at_put_eq ?_
            · simp; done
            · intro h; cases h; done
            · intro _ h; cases h; done
    rintro _ Hxc29 ⟨rfl, xc29⟩
    have xc29l := HExt.len xc29; try simp at xc29l
    refine ⟨(blkOf pc25 ++ (blkOf pc2 ++ [List.length Hxc1])), ?_, ?_, ?_⟩
    · simp; done
    focus
      refine prt_len (BS.ext (by assumption) ?_) ?_
      focus
        · assumption
      focus
        refine prt_len (BS.ext (by assumption) ?_) ?_
        focus
          refine HExt.tr ?_ (by assumption) ?_
          refine HExt.tr ?_ (by assumption) ?_
          refine HExt.tr ?_ (by assumption) ?_
          refine HExt.tr ?_ (by assumption) ?_
          refine HExt.tr ?_ (by assumption) ?_
          refine HExt.tr ?_ (by assumption) ?_
          refine HExt.tr ?_ (by assumption) ?_
          refine HExt.tr ?_ (by assumption) ?_
          refine HExt.push ?_
          · exact HExt.refl _ _
          · intro _ h; cases h; done
          · simp; omega
          · intro _ h; cases h; done
          · intro _ h; cases h; done
          · simp; omega
          · simp; omega
          · intro _ h; cases h; done
          · intro _ h; cases h; done
        focus
          · simp; omega
    refine GPcs.reads (by simp only [List.filterMap_cons, List.filterMap_nil, List.getElem?_toArray, List.getElem?_cons_succ, List.getElem?_cons_zero]; rfl) ?_
    refine GQ.take rfl rfl ?_ ?_
    · simp; done
    focus
      refine GQ.r rfl rfl rfl rfl (grd_aeqlK (b := ?_) tab_is rfl rfl rfl rfl rfl rfl ?_ ?_ ?_) ?_ ?_
      rotate_left 1
      · rfl
      · rfl
      · simp [lEq, cEq]; rfl
      · refine .inr ?_; simp; done
    refine GQ.r rfl rfl rfl rfl (grd_pick_t rfl rfl ?_ rfl) ?_ ?_
    · exact decide_eq_true (by omega)
    · refine .inr ?_; simp; done
    refine GQ.r rfl rfl rfl rfl (grd_move rfl rfl) ?_ ?_
    · refine .inr ?_; simp; done
    refine GQ.take rfl rfl ?_ ?_
    · simp; done
    refine GQ.r rfl rfl rfl rfl (grd_move rfl rfl) ?_ ?_
    · refine .inr ?_; simp; done
    refine GQ.take rfl rfl ?_ ?_
    · simp; done
    refine GQ.r rfl rfl rfl rfl (grd_eql rfl rfl rfl) ?_ ?_
    · refine .inr ?_; simp; done
    refine GQ.r rfl rfl rfl rfl (grd_pick_t rfl rfl ?_ rfl) ?_ ?_
    · with_reducible rfl
    · refine .inr ?_; simp; done
    refine GQ.r rfl rfl rfl rfl (grd_move rfl rfl) ?_ ?_
    · refine .inr ?_; simp; done
    refine GQ.take rfl rfl ?_ ?_
    · simp; done
    refine GQ.r rfl rfl rfl rfl (grd_move rfl rfl) ?_ ?_
    · refine .inr ?_; simp; done
    refine GQ.take rfl rfl ?_ ?_
    · simp; done
    focus
      refine GQ.r rfl rfl rfl rfl (grd_loadNK (b := ?_) (cs := ?_) tab_is rfl rfl rfl rfl ?_ ?_ ?_) ?_ ?_
      rotate_left 2
      refine (HExt.eq (by assumption) _ ?_ ?_).trans ?_
      · omega
      · intro h; cases h; done
      refine (HExt.eq (by assumption) _ ?_ ?_).trans ?_
      · omega
      · intro h; cases h; done
      refine (HExt.eq (by assumption) _ ?_ ?_).trans ?_
      · omega
      · simp; omega
      refine (HExt.eq (by assumption) _ ?_ ?_).trans ?_
      · omega
      · simp; omega
      refine (HExt.eq (by assumption) _ ?_ ?_).trans ?_
      · omega
      · intro h; cases h; done
      refine (HExt.eq (by assumption) _ ?_ ?_).trans ?_
      · omega
      · intro h; cases h; done
      refine (HExt.eq (by assumption) _ ?_ ?_).trans ?_
      · omega
      · simp; omega
      refine (HExt.eq (by assumption) _ ?_ ?_).trans ?_
      · simp; omega
      · intro h; cases h; done
      refine (Hp.at_push_lt ?_).trans ?_
      · omega
      refine (HExt.eq (by assumption) _ ?_ ?_).trans ?_
      · simp; done
      · intro h; cases h; done
      refine Hp.at_put_eq ?_
      · simp; done
      · exact Nat.le_of_ble_eq_true rfl
      · simp [Value.cells]; rfl
      · refine .inr ?_; simp; done
    refine GQ.nil ?_
    refine GPcs.write true (blkOf pc25 ++ (blkOf pc2 ++ [List.length Hxc1])) rfl rfl ?_ rfl rfl (gopf_call rfl Try.call106 rfl ?_ (hPl _)) rfl ?_ ?_ ?_ ?_
    · simp; done
    · intro _ h; cases h; done
    · intro _ h; cases h; done
    focus
      refine prt_app (BS.ext (by assumption) ?_) ?_ ?_
      focus
        · assumption
      focus
        · intro _ h; cases h; done
      focus
        refine prt_app (BS.ext (by assumption) ?_) ?_ ?_
        focus
          refine HExt.tr ?_ (by assumption) ?_
          refine HExt.tr ?_ (by assumption) ?_
          refine HExt.tr ?_ (by assumption) ?_
          refine HExt.tr ?_ (by assumption) ?_
          refine HExt.tr ?_ (by assumption) ?_
          refine HExt.tr ?_ (by assumption) ?_
          refine HExt.tr ?_ (by assumption) ?_
          refine HExt.tr ?_ (by assumption) ?_
          refine HExt.push ?_
          · exact HExt.refl _ _
          · intro _ h; cases h; done
          · simp; omega
          · intro _ h; cases h; done
          · intro _ h; cases h; done
          · simp; omega
          · simp; omega
          · intro _ h; cases h; done
          · intro _ h; cases h; done
        focus
          · intro _ h; cases h; done
        focus
          focus
            refine List.forall_mem_cons.2 ⟨⟨⟨?_, ?_⟩, ?_⟩, ?_⟩
            rotate_left 1
            refine (HExt.eq (by assumption) _ ?_ ?_).trans ?_
            · omega
            · intro h; cases h; done
            refine (HExt.eq (by assumption) _ ?_ ?_).trans ?_
            · omega
            · intro h; cases h; done
            refine (HExt.eq (by assumption) _ ?_ ?_).trans ?_
            · omega
            · simp; omega
            refine (HExt.eq (by assumption) _ ?_ ?_).trans ?_
            · omega
            · simp; omega
            refine (HExt.eq (by assumption) _ ?_ ?_).trans ?_
            · omega
            · intro h; cases h; done
            refine (HExt.eq (by assumption) _ ?_ ?_).trans ?_
            · omega
            · intro h; cases h; done
            refine (HExt.eq (by assumption) _ ?_ ?_).trans ?_
            · omega
            · simp; omega
            refine (HExt.eq (by assumption) _ ?_ ?_).trans ?_
            · simp; omega
            · intro h; cases h; done
            refine (Hp.at_push_lt ?_).trans ?_
            · omega
            refine (HExt.eq (by assumption) _ ?_ ?_).trans ?_
            · simp; done
            · intro h; cases h; done
            refine Hp.at_put_eq ?_
            · simp; done
            · intro h; cases h; done
            · intro _ h; cases h; done
    · simp; done
    rintro _ Hxc30 ⟨rfl, xc30⟩
    have xc30l := HExt.len xc30; try simp at xc30l
    refine ⟨?_, ?_⟩
    focus
      refine prt_len (BS.ext (by assumption) ?_) ?_
      focus
        refine HExt.tr ?_ (by assumption) ?_
        · assumption
        · intro _ h; cases h; done
      focus
        refine prt_len (BS.ext (by assumption) ?_) ?_
        focus
          refine HExt.tr ?_ (by assumption) ?_
          refine HExt.tr ?_ (by assumption) ?_
          refine HExt.tr ?_ (by assumption) ?_
          refine HExt.tr ?_ (by assumption) ?_
          refine HExt.tr ?_ (by assumption) ?_
          refine HExt.tr ?_ (by assumption) ?_
          refine HExt.tr ?_ (by assumption) ?_
          refine HExt.tr ?_ (by assumption) ?_
          refine HExt.tr ?_ (by assumption) ?_
          refine HExt.push ?_
          · exact HExt.refl _ _
          · intro _ h; cases h; done
          · simp; omega
          · intro _ h; cases h; done
          · intro _ h; cases h; done
          · simp; omega
          · simp; omega
          · intro _ h; cases h; done
          · intro _ h; cases h; done
          · intro _ h; cases h; done
        focus
          · simp; omega
    refine GPcs.reads (by simp only [List.filterMap_cons, List.filterMap_nil, List.getElem?_toArray, List.getElem?_cons_succ, List.getElem?_cons_zero]; rfl) ?_
    refine GQ.take rfl rfl ?_ ?_
    · simp; done
    focus
      refine GQ.r rfl rfl rfl rfl (grd_aeqlK (b := ?_) tab_is rfl rfl rfl rfl rfl rfl ?_ ?_ ?_) ?_ ?_
      rotate_left 1
      · rfl
      · rfl
      · simp [lEq, cEq]; rfl
      · exact .inl rfl
    refine GQ.r rfl rfl rfl rfl (grd_pick_t rfl rfl ?_ rfl) ?_ ?_
    · exact decide_eq_true (by omega)
    · exact .inl rfl
    refine GQ.r rfl rfl rfl rfl (grd_move rfl rfl) ?_ ?_
    · exact .inl rfl
    refine GQ.take rfl rfl ?_ ?_
    · simp; done
    refine GQ.r rfl rfl rfl rfl (grd_move rfl rfl) ?_ ?_
    · exact .inl rfl
    refine GQ.take rfl rfl ?_ ?_
    · simp; done
    refine GQ.r rfl rfl rfl rfl (grd_eql rfl rfl rfl) ?_ ?_
    · exact .inl rfl
    refine GQ.r rfl rfl rfl rfl (grd_pick_t rfl rfl ?_ rfl) ?_ ?_
    · with_reducible rfl
    · exact .inl rfl
    refine GQ.r rfl rfl rfl rfl (grd_assign rfl rfl) ?_ ?_
    · exact .inl rfl
    refine GQ.nil ?_
    refine GPcs.nil ?_
    refine GWP.ret ?_
    refine ⟨_, .one rfl, ?_⟩
    refine ⟨?_, ?_⟩
    · rfl
    refine HExt.tr ?_ (by assumption) ?_
    refine HExt.tr ?_ (by assumption) ?_
    refine HExt.tr ?_ (by assumption) ?_
    refine HExt.tr ?_ (by assumption) ?_
    refine HExt.tr ?_ (by assumption) ?_
    refine HExt.tr ?_ (by assumption) ?_
    refine HExt.tr ?_ (by assumption) ?_
    refine HExt.tr ?_ (by assumption) ?_
    refine HExt.tr ?_ (by assumption) ?_
    refine HExt.push ?_
    refine HExt.tr ?_ (by assumption) ?_
    refine HExt.put ?_ ?_
    refine HExt.push ?_
    · assumption
    · exact .inr (by omega)
    · intro _ h; cases h; done
    · intro _ h; cases h; done
    · simp; omega
    · intro _ h; cases h; done
    · intro _ h; cases h; done
    · simp; omega
    · simp; omega
    · intro _ h; cases h; done
    · intro _ h; cases h; done
    · intro _ h; cases h; done
set_option maxHeartbeats 4000000 in
set_option maxRecDepth 100000 in
set_option linter.unusedSimpArgs false in
theorem g_checkT0 (H : Hp) (a b c d : Int) (l : Bool) (hr : ¬ (okN a ∧ okN b ∧ okN c ∧ okN d)) : GCalls Try.prog 50 [.iface 94 (.agg #[.int .i64 a, .int .i64 b, .int .i64 c, .int .i64 d, .bool l])] [] H fun v H' => v = .bool true ∧ HExt [] H H' := by
  have hB := fun H => g_sbytesT0 H a b c d l hr
  have hPl := fun H => g_plainT H a b c d l
  have hR := fun H => g_rightNotT H a b c d (if l then 1 else 0) (fun h => hr ⟨h.1, h.2.1, h.2.2.1, h.2.2.2.1⟩)
  unfold blkV at hPl hR
  have hP := fun (H : Hp) g => g_sput0 H g _ (hB H)
  refine GCalls.body tab_is Try.func50 rfl Try.results50 Try.ntmps50 (by simp) ?_ ?_
  · first | (intro _ h; cases h; done) | (simp; done) | (simp; omega) | (intro i hi; simp at hi; rcases hi with rfl | rfl <;> omega) | (intro i hi; simp at hi; rcases hi with rfl | rfl | rfl <;> omega)
  focus
    refine GWP.seq ?_
    refine GWP.region ?_
    refine GOps.r rfl rfl rfl rfl (grd_assign rfl rfl) ?_
    refine GOps.nil ?_
    refine GWP.seq ?_
    refine GWP.region ?_
    refine GOps.r rfl rfl rfl rfl (grd_move rfl rfl) ?_
    refine GOps.w rfl rfl rfl rfl (gop_call rfl Try.call106 rfl ?_ (hPl _)) ?_
    · intro _ h; cases h; done
    rintro _ Hxe1 ⟨rfl, xe1⟩
    have xe1l := HExt.len xe1; try simp at xe1l
    focus
      refine GOps.w1 rfl rfl rfl rfl (gop_alloc' (id := ?_) ?_ tab_is rfl rfl ?_) ?_
      rotate_left 1
      · rfl
      · decide
    focus
      refine GOps.s rfl rfl rfl (gop_storeC (b := ?_) (cs := ?_) tab_is rfl rfl ?_ rfl rfl ?_ ?_ ?_ ?_ ?_ ?_) ?_
      rotate_left 2
      · rfl
      · rfl
      · exact Hp.at_push_eq
      · rfl
      · exact Nat.le_of_ble_eq_true rfl
      · exact .inr (by omega)
      · simp [splice, Value.cells]; rfl
    refine GOps.nil ?_
    refine GWP.seq ?_
    refine GWP.region ?_
    refine GOps.r rfl rfl rfl rfl (grd_move rfl rfl) ?_
    refine GOps.w rfl rfl rfl rfl (gop_call rfl Try.call49 rfl ?_ (hB _)) ?_
    · intro _ h; cases h; done
    rintro _ Hxe2 ⟨rfl, xe2⟩
    have xe2l := HExt.len xe2; try simp at xe2l
    refine GOps.r rfl rfl rfl rfl (grd_move rfl rfl) ?_
    focus
      refine GOps.r rfl rfl rfl rfl (grd_extract (v := ?_) rfl rfl ?_) ?_
      rotate_left 1
      · simp only [List.getElem?_toArray, List.getElem?_cons_zero, List.getElem?_cons_succ]; rfl
    focus
      refine GOps.r rfl rfl rfl rfl (grd_extract (v := ?_) rfl rfl ?_) ?_
      rotate_left 1
      · simp only [List.getElem?_toArray, List.getElem?_cons_zero, List.getElem?_cons_succ]; rfl
    refine GOps.r rfl rfl rfl rfl (grd_assign rfl rfl) ?_
    refine GOps.r rfl rfl rfl rfl (grd_assign rfl rfl) ?_
    refine GOps.nil ?_
    refine GWP.seq ?_
    refine GWP.region ?_
    focus
      refine GOps.r rfl rfl rfl rfl (grd_build (cs := ?_) tab_is rfl rfl rfl ?_ rfl ?_) ?_
      rotate_left 1
      · decide
      · simp [gfill, gsets, Value.cells]; rfl
    refine GOps.w1 rfl rfl rfl rfl (gop_call rfl Try.call15 rfl ?_ (g_pnew0 _)) ?_
    · intro _ h; cases h; done
    refine GOps.w rfl rfl rfl rfl (gop_call rfl Try.call27 rfl ?_ (g_tnew0 _ _)) ?_
    · intro _ h; cases h; done
    rintro _ Hxe6 ⟨⟨ge3, rfl, le4, te5⟩, xe6⟩
    simp at le4
    have xe6l := HExt.len xe6; try simp at xe6l
    have te5q := Hp.at_lt te5
    refine GOps.r rfl rfl rfl rfl (grd_move rfl rfl) ?_
    focus
      refine GOps.r rfl rfl rfl rfl (grd_extract (v := ?_) rfl rfl ?_) ?_
      rotate_left 1
      · simp only [List.getElem?_toArray, List.getElem?_cons_zero, List.getElem?_cons_succ]; rfl
    focus
      refine GOps.r rfl rfl rfl rfl (grd_extract (v := ?_) rfl rfl ?_) ?_
      rotate_left 1
      · simp only [List.getElem?_toArray, List.getElem?_cons_zero, List.getElem?_cons_succ]; rfl
    refine GOps.r rfl rfl rfl rfl (grd_assign rfl rfl) ?_
    refine GOps.r rfl rfl rfl rfl (grd_assign rfl rfl) ?_
    refine GOps.nil ?_
    refine GWP.seq ?_
    refine GWP.region ?_
    refine GOps.r rfl rfl rfl rfl (grd_move rfl rfl) ?_
    refine GOps.r rfl rfl rfl rfl (grd_move rfl rfl) ?_
    refine GOps.w rfl rfl rfl rfl (gop_call rfl Try.call107 rfl ?_ (hP _ _)) ?_
    · intro _ h; cases h; done
    rintro _ Hxe7 ⟨rfl, xe7⟩
    have xe7l := HExt.len xe7; try simp at xe7l
    refine GOps.r rfl rfl rfl rfl (grd_assign rfl rfl) ?_
    refine GOps.nil ?_
    refine GWP.seq ?_
    refine GWP.seq ?_
    refine GWP.region ?_
    focus
      refine GOps.r rfl rfl rfl rfl (grd_loadNK (b := ?_) (cs := ?_) tab_is rfl rfl rfl rfl ?_ ?_ ?_) ?_
      rotate_left 2
      refine (HExt.eq (by assumption) _ ?_ ?_).trans ?_
      · omega
      · intro h; cases h; done
      refine (HExt.eq (by assumption) _ ?_ ?_).trans ?_
      · simp; omega
      · intro h; cases h; done
      refine (Hp.at_push_lt ?_).trans ?_
      · omega
      refine (HExt.eq (by assumption) _ ?_ ?_).trans ?_
      · simp; done
      · intro h; cases h; done
      refine Hp.at_put_eq ?_
      · simp; done
      · exact Nat.le_of_ble_eq_true rfl
      · simp [Value.cells]; rfl
    refine GOps.w rfl rfl rfl rfl (gop_call rfl Try.call108 rfl ?_ (hR _)) ?_
    · intro _ h; cases h; done
    rintro _ Hxe8 ⟨rfl, xe8⟩
    have xe8l := HExt.len xe8; try simp at xe8l
    refine GOps.r rfl rfl rfl rfl (grd_not rfl rfl) ?_
    refine GOps.nil ?_
    refine GWP.cond_t rfl ?_ ?_
    · simp; done
    refine GWP.seq ?_
    refine GWP.region ?_
    refine GOps.r rfl rfl rfl rfl (grd_move rfl rfl) ?_
    refine GOps.r rfl rfl rfl rfl (grd_eql rfl rfl rfl) ?_
    refine GOps.r rfl rfl rfl rfl (grd_move rfl rfl) ?_
    refine GOps.take rfl rfl ?_ ?_
    · simp; done
    refine GOps.r rfl rfl rfl rfl (grd_move rfl rfl) ?_
    refine GOps.take rfl rfl ?_ ?_
    · simp; done
    refine GOps.r rfl rfl rfl rfl (grd_len tab_is rfl rfl rfl rfl rfl) ?_
    refine GOps.take rfl rfl ?_ ?_
    · simp; done
    refine GOps.r rfl rfl rfl rfl (grd_eql rfl rfl rfl) ?_
    refine GOps.r rfl rfl rfl rfl (grd_pick_t rfl rfl ?_ rfl) ?_
    · exact decide_eq_true (by omega)
    refine GOps.r rfl rfl rfl rfl (grd_move rfl rfl) ?_
    refine GOps.take rfl rfl ?_ ?_
    · simp; done
    refine GOps.r rfl rfl rfl rfl (grd_move rfl rfl) ?_
    refine GOps.take rfl rfl ?_ ?_
    · simp; done
    refine GOps.r rfl rfl rfl rfl (grd_eql rfl rfl rfl) ?_
    refine GOps.r rfl rfl rfl rfl (grd_pick_t rfl rfl ?_ rfl) ?_
    · exact decide_eq_true (by omega)
    refine GOps.r rfl rfl rfl rfl (grd_move rfl rfl) ?_
    refine GOps.take rfl rfl ?_ ?_
    · simp; done
    refine GOps.r rfl rfl rfl rfl (grd_move rfl rfl) ?_
    refine GOps.take rfl rfl ?_ ?_
    · simp; done
    focus
      refine GOps.w1 rfl rfl rfl rfl (gop_call rfl Try.call30 rfl ?_ (g_tlen0 _ _ ?_ ?_)) ?_
      · intro _ h; cases h; done
      rotate_left 1
      refine (HExt.eq (by assumption) _ ?_ ?_).trans ?_
      · omega
      · intro h; cases h; done
      refine (HExt.eq (by assumption) _ ?_ ?_).trans ?_
      · omega
      · intro h; cases h; done
      · assumption
    refine GOps.take rfl rfl ?_ ?_
    · simp; done
    refine GOps.r rfl rfl rfl rfl (grd_eql rfl rfl rfl) ?_
    refine GOps.r rfl rfl rfl rfl (grd_pick_t rfl rfl ?_ rfl) ?_
    · exact decide_eq_true (by omega)
    refine GOps.r rfl rfl rfl rfl (grd_assign rfl rfl) ?_
    refine GOps.nil ?_
    refine GWP.ret ?_
    refine ⟨_, .one rfl, ?_⟩
    refine ⟨?_, ?_⟩
    · rfl
    refine HExt.tr ?_ (by assumption) ?_
    refine HExt.tr ?_ (by assumption) ?_
    refine HExt.tr ?_ (by assumption) ?_
    refine HExt.push ?_
    refine HExt.tr ?_ (by assumption) ?_
    refine HExt.put ?_ ?_
    refine HExt.push ?_
    · assumption
    · exact .inr (by omega)
    · intro _ h; cases h; done
    · intro _ h; cases h; done
    · intro _ h; cases h; done
    · intro _ h; cases h; done
set_option maxHeartbeats 4000000 in
set_option maxRecDepth 100000 in
set_option linter.unusedSimpArgs false in
theorem g_checkD (H : Hp) (p : Option Addr) (n c : Nat) (L : List UInt8) (hb : BS H (.slice p n c) L) (hn : 1 ≤ n ∧ n ≤ 160) : GCalls Try.prog 50 [.iface 97 (.slice p n c)] [] H fun v H' => v = .bool true ∧ HExt [] H H' := by
  have hln := hb.len
  have hnL : 1 ≤ L.length ∧ L.length ≤ 160 := by omega
  have hlen : (68 :: L).length ≤ 161 := by simp only [List.length_cons]; omega
  have hseg := segO_data hnL
  have hB := fun H hb => g_sbytesD H p n c L hb hn
  have hPl := fun H p n c hb => g_plainD H p n c L hb
  have hR := fun H => g_rightD H 68 L rfl
  rw [decide_eq_true hnL] at hR
  have hRB := fun H => g_rbytesD H L ⟨hnL.1, by omega⟩
  generalize 68 :: L = X at hseg hlen hB hRB
  unfold blkV at hPl hRB
  have hS0 := fun H p n c hb hn => g_sread H p n c (sealL (X)) hb hn
  rw [hseg] at hS0
  have hG0 := fun H g q j cj p c cp h => (g_sget1 H g q (sealL (X)) (by rw [sealL_length]; omega) j cj p c cp h).mono fun v H' k => (⟨k.1, k.2.1, T1.bsk h k.2.2, k.2.2⟩ : SegV H' v (segO (sealL (X))) ∧ T1 H' g q 1 (sealL (X)) j cj p c cp ∧ BSk H H' ∧ HExt [g] H H')
  have hSk := fun H g q a j cj p c cp h => (g_Seek0 H g q a (sealL (X)) j cj p c cp h).mono fun v H' k => (⟨k.1, k.2.1, T1.bsk h k.2.2, k.2.2⟩ : v = .int .i64 0 ∧ T1 H' g q 0 (sealL (X)) j cj p c cp ∧ BSk H H' ∧ HExt [g] H H')
  rw [hseg] at hG0
  simp only [SegV] at hS0 hG0
  have hP := fun (H : Hp) g q h hq (hb : BS H (.slice p n c) L) => g_sput H g q h hq _ (X) (by omega) (hB H hb)
  refine GCalls.body tab_is Try.func50 rfl Try.results50 Try.ntmps50 (by simp) ?_ ?_
  · first | (intro _ h; cases h; done) | (simp; done) | (simp; omega) | (intro i hi; simp at hi; rcases hi with rfl | rfl <;> omega) | (intro i hi; simp at hi; rcases hi with rfl | rfl | rfl <;> omega)
  focus
    refine GWP.seq ?_
    refine GWP.region ?_
    refine GOps.r rfl rfl rfl rfl (grd_assign rfl rfl) ?_
    refine GOps.nil ?_
    refine GWP.seq ?_
    refine GWP.region ?_
    refine GOps.r rfl rfl rfl rfl (grd_move rfl rfl) ?_
    refine GOps.w rfl rfl rfl rfl (gop_call rfl Try.call106 rfl ?_ (hPl _ _ _ _ ?_)) ?_
    · intro _ h; cases h; done
    · assumption
    rintro _ Hxf1 ⟨rfl, xf1⟩
    have xf1l := HExt.len xf1; try simp at xf1l
    focus
      refine GOps.w1 rfl rfl rfl rfl (gop_alloc' (id := ?_) ?_ tab_is rfl rfl ?_) ?_
      rotate_left 1
      · rfl
      · decide
    focus
      refine GOps.s rfl rfl rfl (gop_storeC (b := ?_) (cs := ?_) tab_is rfl rfl ?_ rfl rfl ?_ ?_ ?_ ?_ ?_ ?_) ?_
      rotate_left 2
      · rfl
      · rfl
      · exact Hp.at_push_eq
      · rfl
      · exact Nat.le_of_ble_eq_true rfl
      · exact .inr (by omega)
      · simp [splice, Value.cells]; rfl
    refine GOps.nil ?_
    refine GWP.seq ?_
    refine GWP.region ?_
    refine GOps.r rfl rfl rfl rfl (grd_move rfl rfl) ?_
    refine GOps.w rfl rfl rfl rfl (gop_call rfl Try.call49 rfl ?_ (hB _ ?_)) ?_
    · intro _ h; cases h; done
    focus
      refine BS.ext (by assumption) ?_
      refine HExt.put ?_ ?_
      refine HExt.push ?_
      · assumption
      · exact .inr (by omega)
    rintro _ Hxf5 ⟨⟨pf2, cf3, rfl, bf4⟩, xf5⟩
    have xf5l := HExt.len xf5; try simp at xf5l
    refine GOps.r rfl rfl rfl rfl (grd_move rfl rfl) ?_
    focus
      refine GOps.r rfl rfl rfl rfl (grd_extract (v := ?_) rfl rfl ?_) ?_
      rotate_left 1
      · simp only [List.getElem?_toArray, List.getElem?_cons_zero, List.getElem?_cons_succ]; rfl
    focus
      refine GOps.r rfl rfl rfl rfl (grd_extract (v := ?_) rfl rfl ?_) ?_
      rotate_left 1
      · simp only [List.getElem?_toArray, List.getElem?_cons_zero, List.getElem?_cons_succ]; rfl
    refine GOps.r rfl rfl rfl rfl (grd_assign rfl rfl) ?_
    refine GOps.r rfl rfl rfl rfl (grd_assign rfl rfl) ?_
    refine GOps.nil ?_
    refine GWP.seq ?_
    refine GWP.region ?_
    focus
      refine GOps.r rfl rfl rfl rfl (grd_build (cs := ?_) tab_is rfl rfl rfl ?_ rfl ?_) ?_
      rotate_left 1
      · decide
      · simp [gfill, gsets, Value.cells]; rfl
    refine GOps.w1 rfl rfl rfl rfl (gop_call rfl Try.call15 rfl ?_ (g_pnew0 _)) ?_
    · intro _ h; cases h; done
    refine GOps.w rfl rfl rfl rfl (gop_call rfl Try.call27 rfl ?_ (g_tnew0 _ _)) ?_
    · intro _ h; cases h; done
    rintro _ Hxf9 ⟨⟨gf6, rfl, lf7, tf8⟩, xf9⟩
    simp at lf7
    have xf9l := HExt.len xf9; try simp at xf9l
    have tf8q := Hp.at_lt tf8
    refine GOps.r rfl rfl rfl rfl (grd_move rfl rfl) ?_
    focus
      refine GOps.r rfl rfl rfl rfl (grd_extract (v := ?_) rfl rfl ?_) ?_
      rotate_left 1
      · simp only [List.getElem?_toArray, List.getElem?_cons_zero, List.getElem?_cons_succ]; rfl
    focus
      refine GOps.r rfl rfl rfl rfl (grd_extract (v := ?_) rfl rfl ?_) ?_
      rotate_left 1
      · simp only [List.getElem?_toArray, List.getElem?_cons_zero, List.getElem?_cons_succ]; rfl
    refine GOps.r rfl rfl rfl rfl (grd_assign rfl rfl) ?_
    refine GOps.r rfl rfl rfl rfl (grd_assign rfl rfl) ?_
    refine GOps.nil ?_
    refine GWP.seq ?_
    refine GWP.region ?_
    refine GOps.r rfl rfl rfl rfl (grd_move rfl rfl) ?_
    refine GOps.r rfl rfl rfl rfl (grd_move rfl rfl) ?_
    focus
      refine GOps.w rfl rfl rfl rfl (gop_call rfl Try.call107 rfl ?_ (hP _ _ ?_ ?_ ?_ ?_)) ?_
      rotate_left 1
      rotate_left 1
      · assumption
      refine (HExt.eq (by assumption) _ ?_ ?_).trans ?_
      · simp; done
      · intro h; cases h; done
      · exact Hp.at_push_eq
      focus
        refine BS.ext (by assumption) ?_
        refine HExt.tr ?_ (by assumption) ?_
        refine HExt.push ?_
        refine HExt.tr ?_ (by assumption) ?_
        refine HExt.put ?_ ?_
        refine HExt.push ?_
        · assumption
        · exact .inr (by omega)
        · intro _ h; cases h; done
        · intro _ h; cases h; done
      rotate_left 1
      · simp [Ctx.may]; omega
    rintro _ Hxf16 ⟨rfl, ⟨jf10, df11, pf12, cf13, ef14, tf15⟩, xf16⟩
    have xf16l := HExt.len xf16; try simp at xf16l
    refine GOps.r rfl rfl rfl rfl (grd_assign rfl rfl) ?_
    refine GOps.nil ?_
    refine GWP.seq ?_
    refine GWP.seq ?_
    refine GWP.region ?_
    focus
      refine GOps.r rfl rfl rfl rfl (grd_loadNK (b := ?_) (cs := ?_) tab_is rfl rfl rfl rfl ?_ ?_ ?_) ?_
      rotate_left 2
      refine (HExt.eq (by assumption) _ ?_ ?_).trans ?_
      · omega
      · simp; omega
      refine (HExt.eq (by assumption) _ ?_ ?_).trans ?_
      · simp; omega
      · intro h; cases h; done
      refine (Hp.at_push_lt ?_).trans ?_
      · omega
      refine (HExt.eq (by assumption) _ ?_ ?_).trans ?_
      · simp; done
      · intro h; cases h; done
      refine Hp.at_put_eq ?_
      · simp; done
      · exact Nat.le_of_ble_eq_true rfl
      · simp [Value.cells]; rfl
    refine GOps.w rfl rfl rfl rfl (gop_call rfl Try.call108 rfl ?_ (hR _)) ?_
    · intro _ h; cases h; done
    rintro _ Hxf17 ⟨rfl, xf17⟩
    have xf17l := HExt.len xf17; try simp at xf17l
    refine GOps.r rfl rfl rfl rfl (grd_not rfl rfl) ?_
    refine GOps.nil ?_
    refine GWP.cond_f rfl ?_ ?_
    · simp; done
    refine GWP.skip ?_
    refine GWP.seq ?_
    refine GWP.region ?_
    refine GOps.r rfl rfl rfl rfl (grd_move rfl rfl) ?_
    refine GOps.w rfl rfl rfl rfl (gop_call rfl Try.call109 rfl ?_ (hS0 _ _ _ _ ?_ ?_)) ?_
    · intro _ h; cases h; done
    focus
      refine BS.ext (by assumption) ?_
      refine HExt.tr ?_ (by assumption) ?_
      refine HExt.tr ?_ (by assumption) ?_
      refine HExt.tr ?_ (by assumption) ?_
      refine HExt.push ?_
      · exact HExt.refl _ _
      · intro _ h; cases h; done
      · simp; omega
      · intro _ h; cases h; done
    · omega
    rintro _ Hxf22 ⟨⟨pf18, nf19, cf20, rfl, bf21⟩, xf22⟩
    have xf22l := HExt.len xf22; try simp at xf22l
    refine GOps.r rfl rfl rfl rfl (grd_move rfl rfl) ?_
    focus
      refine GOps.r rfl rfl rfl rfl (grd_extract (v := ?_) rfl rfl ?_) ?_
      rotate_left 1
      · simp only [List.getElem?_toArray, List.getElem?_cons_zero, List.getElem?_cons_succ]; rfl
    focus
      refine GOps.r rfl rfl rfl rfl (grd_extract (v := ?_) rfl rfl ?_) ?_
      rotate_left 1
      · simp only [List.getElem?_toArray, List.getElem?_cons_zero, List.getElem?_cons_succ]; rfl
    refine GOps.r rfl rfl rfl rfl (grd_assign rfl rfl) ?_
    refine GOps.r rfl rfl rfl rfl (grd_assign rfl rfl) ?_
    refine GOps.nil ?_
    refine GWP.seq ?_
    refine GWP.region ?_
    refine GOps.r rfl rfl rfl rfl (grd_move rfl rfl) ?_
    focus
      refine GOps.w rfl rfl rfl rfl (gop_call rfl Try.call84 rfl ?_ (hSk _ _ ?_ ?_ ?_ ?_ ?_ ?_ ?_ ?_)) ?_
      · simp [Ctx.may]; omega
      rotate_left 7
      · exact T1.ext (T1.ext (by assumption) (by assumption)) (by assumption)
    rintro _ Hxf25 ⟨rfl, tf23, kf24, xf25⟩
    have xf25l := HExt.len xf25; try simp at xf25l
    replace bf21 := kf24 _ _ bf21
    refine GOps.nil ?_
    refine GWP.seq ?_
    refine GWP.region ?_
    refine GOps.r rfl rfl rfl rfl (grd_move rfl rfl) ?_
    focus
      refine GOps.w rfl rfl rfl rfl (gop_call rfl Try.call110 rfl ?_ (hG0 _ _ ?_ ?_ ?_ ?_ ?_ ?_ ?_)) ?_
      · simp [Ctx.may]; omega
      rotate_left 6
      · assumption
    rintro _ Hxf32 ⟨⟨pf26, nf27, cf28, rfl, bf29⟩, tf30, kf31, xf32⟩
    have xf32l := HExt.len xf32; try simp at xf32l
    replace bf21 := kf31 _ _ bf21
    refine GOps.r rfl rfl rfl rfl (grd_move rfl rfl) ?_
    focus
      refine GOps.r rfl rfl rfl rfl (grd_extract (v := ?_) rfl rfl ?_) ?_
      rotate_left 1
      · simp only [List.getElem?_toArray, List.getElem?_cons_zero, List.getElem?_cons_succ]; rfl
    focus
      refine GOps.r rfl rfl rfl rfl (grd_extract (v := ?_) rfl rfl ?_) ?_
      rotate_left 1
      · simp only [List.getElem?_toArray, List.getElem?_cons_zero, List.getElem?_cons_succ]; rfl
    refine GOps.r rfl rfl rfl rfl (grd_assign rfl rfl) ?_
    refine GOps.r rfl rfl rfl rfl (grd_assign rfl rfl) ?_
    refine GOps.nil ?_
    refine GWP.seq ?_
    refine GWP.region ?_
    refine GOps.r rfl rfl rfl rfl (grd_move rfl rfl) ?_
    focus
      refine GOps.w1 rfl rfl rfl rfl (gop_call rfl Try.call110 rfl ?_ (g_sget2 _ _ ?_ ?_ ?_ ?_ ?_ ?_ ?_ ?_)) ?_
      · intro _ h; cases h; done
      rotate_left 7
      · assumption
    refine GOps.r rfl rfl rfl rfl (grd_move rfl rfl) ?_
    focus
      refine GOps.r rfl rfl rfl rfl (grd_extract (v := ?_) rfl rfl ?_) ?_
      rotate_left 1
      · simp only [List.getElem?_toArray, List.getElem?_cons_zero, List.getElem?_cons_succ]; rfl
    focus
      refine GOps.r rfl rfl rfl rfl (grd_extract (v := ?_) rfl rfl ?_) ?_
      rotate_left 1
      · simp only [List.getElem?_toArray, List.getElem?_cons_zero, List.getElem?_cons_succ]; rfl
    refine GOps.r rfl rfl rfl rfl (grd_assign rfl rfl) ?_
    refine GOps.r rfl rfl rfl rfl (grd_assign rfl rfl) ?_
    refine GOps.nil ?_
    refine GWP.seq ?_
    refine GWP.draw [.reads [0, 1, 2, 3, 5, 4], .write 6, .reads [7, 8, 9, 10, 11, 12, 13, 14, 15, 16, 17, 18, 19, 21], .write 20, .reads [22, 23, 24, 25, 26, 27, 28, 29, 31], .write 30, .reads [32, 33, 34, 35, 36, 37, 38]] false (blkOf pf2 ++ [List.length Hxf1]) (by kernel_rfl) (by kernel_rfl) (by kernel_rfl) (by kernel_rfl) ?_ ?_
    focus
      refine prt_len (BS.ext (by assumption) ?_) ?_
      focus
        refine HExt.tr ?_ (by assumption) ?_
        refine HExt.tr ?_ (by assumption) ?_
        refine HExt.tr ?_ (by assumption) ?_
        refine HExt.tr ?_ (by assumption) ?_
        refine HExt.tr ?_ (by assumption) ?_
        refine HExt.tr ?_ (by assumption) ?_
        refine HExt.push ?_
        · exact HExt.refl _ _
        · intro _ h; cases h; done
        · simp; omega
        · intro _ h; cases h; done
        · intro _ h; cases h; done
        · simp; omega
        · simp; omega
      focus
        · simp; omega
    refine GPcs.reads (by simp only [List.filterMap_cons, List.filterMap_nil, List.getElem?_toArray, List.getElem?_cons_succ, List.getElem?_cons_zero]; rfl) ?_
    refine GQ.r rfl rfl rfl rfl (grd_move rfl rfl) ?_ ?_
    · refine .inr ?_; simp; done
    refine GQ.r rfl rfl rfl rfl (grd_eql rfl rfl rfl) ?_ ?_
    · refine .inr ?_; simp; done
    refine GQ.r rfl rfl rfl rfl (grd_move rfl rfl) ?_ ?_
    · refine .inr ?_; simp; done
    refine GQ.take rfl rfl ?_ ?_
    · simp; done
    refine GQ.r rfl rfl rfl rfl (grd_move rfl rfl) ?_ ?_
    · refine .inr ?_; simp; done
    refine GQ.take rfl rfl ?_ ?_
    · simp; done
    focus
      refine GQ.r rfl rfl rfl rfl (grd_loadNK (b := ?_) (cs := ?_) tab_is rfl rfl rfl rfl ?_ ?_ ?_) ?_ ?_
      rotate_left 2
      refine (HExt.eq (by assumption) _ ?_ ?_).trans ?_
      · omega
      · simp; omega
      refine (HExt.eq (by assumption) _ ?_ ?_).trans ?_
      · omega
      · simp; omega
      refine (HExt.eq (by assumption) _ ?_ ?_).trans ?_
      · omega
      · intro h; cases h; done
      refine (HExt.eq (by assumption) _ ?_ ?_).trans ?_
      · omega
      · intro h; cases h; done
      refine (HExt.eq (by assumption) _ ?_ ?_).trans ?_
      · omega
      · simp; omega
      refine (HExt.eq (by assumption) _ ?_ ?_).trans ?_
      · simp; omega
      · intro h; cases h; done
      refine (Hp.at_push_lt ?_).trans ?_
      · omega
      refine (HExt.eq (by assumption) _ ?_ ?_).trans ?_
      · simp; done
      · intro h; cases h; done
      refine Hp.at_put_eq ?_
      · simp; done
      · exact Nat.le_of_ble_eq_true rfl
      · simp [Value.cells]; rfl
      · refine .inr ?_; simp; done
    refine GQ.take rfl rfl ?_ ?_
    · simp; done
    focus
      refine GQ.r rfl rfl rfl rfl (grd_strBP (L := ?_) tab_is rfl rfl rfl rfl rfl rfl rfl rfl ?_) ?_ ?_
      rotate_left 1
      focus
        refine BS.ext (by assumption) ?_
        refine HExt.tr ?_ (by assumption) ?_
        refine HExt.tr ?_ (by assumption) ?_
        refine HExt.tr ?_ (by assumption) ?_
        refine HExt.tr ?_ (by assumption) ?_
        refine HExt.tr ?_ (by assumption) ?_
        refine HExt.tr ?_ (by assumption) ?_
        refine HExt.push ?_
        · exact HExt.refl _ _
        · intro _ h; cases h; done
        · simp; omega
        · intro _ h; cases h; done
        · intro _ h; cases h; done
        · simp; omega
        · simp; omega
      · refine .inr ?_; intro i hi; simp [hi]
    refine GQ.nil ?_
    refine GPcs.writeD false rfl rfl ?_ rfl rfl (gopf_call rfl Try.call111 rfl ?_ (hRB _)) rfl ?_ ?_ ?_
    · simp; done
    · intro _ h; cases h; done
    · intro _ h; cases h; done
    focus
      refine prt_app (BS.ext (by assumption) ?_) ?_ ?_
      focus
        refine HExt.tr ?_ (by assumption) ?_
        refine HExt.tr ?_ (by assumption) ?_
        refine HExt.tr ?_ (by assumption) ?_
        refine HExt.tr ?_ (by assumption) ?_
        refine HExt.tr ?_ (by assumption) ?_
        refine HExt.tr ?_ (by assumption) ?_
        refine HExt.push ?_
        · exact HExt.refl _ _
        · intro _ h; cases h; done
        · simp; omega
        · intro _ h; cases h; done
        · intro _ h; cases h; done
        · simp; omega
        · simp; omega
      focus
        · intro _ h; cases h; done
      focus
        focus
          refine List.forall_mem_cons.2 ⟨⟨⟨?_, ?_⟩, ?_⟩, ?_⟩
          rotate_left 1
          refine (HExt.eq (by assumption) _ ?_ ?_).trans ?_
          · omega
          · simp; omega
          refine (HExt.eq (by assumption) _ ?_ ?_).trans ?_
          · omega
          · simp; omega
          refine (HExt.eq (by assumption) _ ?_ ?_).trans ?_
          · omega
          · intro h; cases h; done
          refine (HExt.eq (by assumption) _ ?_ ?_).trans ?_
          · omega
          · intro h; cases h; done
          refine (HExt.eq (by assumption) _ ?_ ?_).trans ?_
          · omega
          · simp; omega
          refine (HExt.eq (by assumption) _ ?_ ?_).trans ?_
          · simp; omega
          · intro h; cases h; done
          refine (Hp.at_push_lt ?_).trans ?_
          · omega
          refine (HExt.eq (by assumption) _ ?_ ?_).trans ?_
          · simp; done
          · intro h; cases h; done
          refine Hp.at_put_eq ?_
          · simp; done
          · intro h; cases h; done
          · intro _ h; cases h; done
    rintro _ Hxf36 ⟨⟨pf33, cf34, rfl, bf35⟩, xf36⟩
    have xf36l := HExt.len xf36; try simp at xf36l
    refine ⟨blkOf pf33 ++ ((blkOf pf2 ++ [List.length Hxf1])), ?_, ?_, ?_⟩
    · intro i hi; simp [hi]
    focus
      refine prt_len (by assumption) ?_
      focus
        refine prt_len (BS.ext (by assumption) ?_) ?_
        focus
          refine HExt.tr ?_ (by assumption) ?_
          refine HExt.tr ?_ (by assumption) ?_
          refine HExt.tr ?_ (by assumption) ?_
          refine HExt.tr ?_ (by assumption) ?_
          refine HExt.tr ?_ (by assumption) ?_
          refine HExt.tr ?_ (by assumption) ?_
          refine HExt.tr ?_ (by assumption) ?_
          refine HExt.push ?_
          · exact HExt.refl _ _
          · intro _ h; cases h; done
          · simp; omega
          · intro _ h; cases h; done
          · intro _ h; cases h; done
          · simp; omega
          · simp; omega
          · intro _ h; cases h; done
        focus
          · simp; omega
    refine GPcs.reads (by simp only [List.filterMap_cons, List.filterMap_nil, List.getElem?_toArray, List.getElem?_cons_succ, List.getElem?_cons_zero]; rfl) ?_
    refine GQ.take rfl rfl ?_ ?_
    · simp; done
    focus
      refine GQ.r rfl rfl rfl rfl (grd_strBP (L := ?_) tab_is rfl rfl rfl rfl rfl rfl rfl rfl ?_) ?_ ?_
      rotate_left 1
      · assumption
      · refine .inr ?_; intro i hi; simp [hi]
    refine GQ.take rfl rfl ?_ ?_
    · simp; done
    refine GQ.r rfl rfl rfl rfl (grd_seql' rfl rfl rfl) ?_ ?_
    · refine .inr ?_; simp; done
    refine GQ.r rfl rfl rfl rfl (grd_pick_t rfl rfl ?_ rfl) ?_ ?_
    · exact decide_eq_true (by omega)
    · refine .inr ?_; simp; done
    refine GQ.r rfl rfl rfl rfl (grd_move rfl rfl) ?_ ?_
    · refine .inr ?_; simp; done
    refine GQ.take rfl rfl ?_ ?_
    · simp; done
    refine GQ.r rfl rfl rfl rfl (grd_move rfl rfl) ?_ ?_
    · refine .inr ?_; simp; done
    refine GQ.take rfl rfl ?_ ?_
    · simp; done
    refine GQ.r rfl rfl rfl rfl (grd_eql rfl rfl rfl) ?_ ?_
    · refine .inr ?_; simp; done
    refine GQ.r rfl rfl rfl rfl (grd_pick_t rfl rfl ?_ rfl) ?_ ?_
    · simp; done
    · refine .inr ?_; simp; done
    refine GQ.r rfl rfl rfl rfl (grd_move rfl rfl) ?_ ?_
    · refine .inr ?_; simp; done
    refine GQ.take rfl rfl ?_ ?_
    · simp; done
    refine GQ.r rfl rfl rfl rfl (grd_move rfl rfl) ?_ ?_
    · refine .inr ?_; simp; done
    refine GQ.take rfl rfl ?_ ?_
    · simp; done
    refine GQ.r rfl rfl rfl rfl (grd_eql rfl rfl rfl) ?_ ?_
    · refine .inr ?_; simp; done
    refine GQ.r rfl rfl rfl rfl (grd_pick_t rfl rfl ?_ rfl) ?_ ?_
    · exact decide_eq_true (by omega)
    · refine .inr ?_; simp; done
    refine GQ.r rfl rfl rfl rfl (grd_move rfl rfl) ?_ ?_
    · refine .inr ?_; simp; done
    refine GQ.take rfl rfl ?_ ?_
    · simp; done
    refine GQ.r rfl rfl rfl rfl (grd_move rfl rfl) ?_ ?_
    · refine .inr ?_; simp; done
    refine GQ.take rfl rfl ?_ ?_
    · simp; done
    focus
      refine GQ.r rfl rfl rfl rfl (grd_loadNK (b := ?_) (cs := ?_) tab_is rfl rfl rfl rfl ?_ ?_ ?_) ?_ ?_
      rotate_left 2
      refine (HExt.eq (by assumption) _ ?_ ?_).trans ?_
      · omega
      · intro h; cases h; done
      refine (HExt.eq (by assumption) _ ?_ ?_).trans ?_
      · omega
      · simp; omega
      refine (HExt.eq (by assumption) _ ?_ ?_).trans ?_
      · omega
      · simp; omega
      refine (HExt.eq (by assumption) _ ?_ ?_).trans ?_
      · omega
      · intro h; cases h; done
      refine (HExt.eq (by assumption) _ ?_ ?_).trans ?_
      · omega
      · intro h; cases h; done
      refine (HExt.eq (by assumption) _ ?_ ?_).trans ?_
      · omega
      · simp; omega
      refine (HExt.eq (by assumption) _ ?_ ?_).trans ?_
      · simp; omega
      · intro h; cases h; done
      refine (Hp.at_push_lt ?_).trans ?_
      · omega
      refine (HExt.eq (by assumption) _ ?_ ?_).trans ?_
      · simp; done
      · intro h; cases h; done
      refine Hp.at_put_eq ?_
      · simp; done
      · exact Nat.le_of_ble_eq_true rfl
      · simp [Value.cells]; rfl
      · refine .inr ?_; simp; done
    refine GQ.nil ?_
    refine GPcs.writeD false rfl rfl ?_ rfl rfl (gopf_call rfl Try.call106 rfl ?_ (hPl _ _ _ _ ?_)) rfl ?_ ?_ ?_
    · simp; done
    · intro _ h; cases h; done
    focus
      refine BS.ext (by assumption) ?_
      · assumption
    · intro _ h; cases h; done
    focus
      refine prt_app (by assumption) ?_ ?_
      focus
        · intro _ h; cases h; done
      focus
        refine prt_app (BS.ext (by assumption) ?_) ?_ ?_
        focus
          refine HExt.tr ?_ (by assumption) ?_
          refine HExt.tr ?_ (by assumption) ?_
          refine HExt.tr ?_ (by assumption) ?_
          refine HExt.tr ?_ (by assumption) ?_
          refine HExt.tr ?_ (by assumption) ?_
          refine HExt.tr ?_ (by assumption) ?_
          refine HExt.tr ?_ (by assumption) ?_
          refine HExt.push ?_
          · exact HExt.refl _ _
          · intro _ h; cases h; done
          · simp; omega
          · intro _ h; cases h; done
          · intro _ h; cases h; done
          · simp; omega
          · simp; omega
          · intro _ h; cases h; done
        focus
          · intro _ h; cases h; done
        focus
          focus
            refine List.forall_mem_cons.2 ⟨⟨⟨?_, ?_⟩, ?_⟩, ?_⟩
            rotate_left 1
            refine (HExt.eq (by assumption) _ ?_ ?_).trans ?_
            · omega
            · intro h; cases h; done
            refine (HExt.eq (by assumption) _ ?_ ?_).trans ?_
            · omega
            · simp; omega
            refine (HExt.eq (by assumption) _ ?_ ?_).trans ?_
            · omega
            · simp; omega
            refine (HExt.eq (by assumption) _ ?_ ?_).trans ?_
            · omega
            · intro h; cases h; done
            refine (HExt.eq (by assumption) _ ?_ ?_).trans ?_
            · omega
            · intro h; cases h; done
            refine (HExt.eq (by assumption) _ ?_ ?_).trans ?_
            · omega
            · simp; omega
            refine (HExt.eq (by assumption) _ ?_ ?_).trans ?_
            · simp; omega
            · intro h; cases h; done
            refine (Hp.at_push_lt ?_).trans ?_
            · omega
            refine (HExt.eq (by assumption) _ ?_ ?_).trans ?_
            · simp; done
            · intro h; cases h; done
            refine Hp.at_put_eq ?_
            · simp; done
            · intro h; cases h; done
            · intro _ h; cases h; done
    rintro _ Hxf37 ⟨rfl, xf37⟩
    have xf37l := HExt.len xf37; try simp at xf37l
    refine ⟨(blkOf pf33 ++ (blkOf pf2 ++ [List.length Hxf1])), ?_, ?_, ?_⟩
    · simp; done
    focus
      refine prt_len (BS.ext (by assumption) ?_) ?_
      focus
        · assumption
      focus
        refine prt_len (BS.ext (by assumption) ?_) ?_
        focus
          refine HExt.tr ?_ (by assumption) ?_
          refine HExt.tr ?_ (by assumption) ?_
          refine HExt.tr ?_ (by assumption) ?_
          refine HExt.tr ?_ (by assumption) ?_
          refine HExt.tr ?_ (by assumption) ?_
          refine HExt.tr ?_ (by assumption) ?_
          refine HExt.tr ?_ (by assumption) ?_
          refine HExt.tr ?_ (by assumption) ?_
          refine HExt.push ?_
          · exact HExt.refl _ _
          · intro _ h; cases h; done
          · simp; omega
          · intro _ h; cases h; done
          · intro _ h; cases h; done
          · simp; omega
          · simp; omega
          · intro _ h; cases h; done
          · intro _ h; cases h; done
        focus
          · simp; omega
    refine GPcs.reads (by simp only [List.filterMap_cons, List.filterMap_nil, List.getElem?_toArray, List.getElem?_cons_succ, List.getElem?_cons_zero]; rfl) ?_
    refine GQ.take rfl rfl ?_ ?_
    · simp; done
    focus
      refine GQ.r rfl rfl rfl rfl (grd_aeqlK (b := ?_) tab_is rfl rfl rfl rfl rfl rfl ?_ ?_ ?_) ?_ ?_
      rotate_left 1
      · rfl
      · rfl
      · simp [lEq, cEq]; rfl
      · refine .inr ?_; simp; done
    refine GQ.r rfl rfl rfl rfl (grd_pick_t rfl rfl ?_ rfl) ?_ ?_
    · exact decide_eq_true (by omega)
    · refine .inr ?_; simp; done
    refine GQ.r rfl rfl rfl rfl (grd_move rfl rfl) ?_ ?_
    · refine .inr ?_; simp; done
    refine GQ.take rfl rfl ?_ ?_
    · simp; done
    refine GQ.r rfl rfl rfl rfl (grd_move rfl rfl) ?_ ?_
    · refine .inr ?_; simp; done
    refine GQ.take rfl rfl ?_ ?_
    · simp; done
    refine GQ.r rfl rfl rfl rfl (grd_eql rfl rfl rfl) ?_ ?_
    · refine .inr ?_; simp; done
    refine GQ.r rfl rfl rfl rfl (grd_pick_t rfl rfl ?_ rfl) ?_ ?_
    · with_reducible rfl
    · refine .inr ?_; simp; done
    refine GQ.r rfl rfl rfl rfl (grd_move rfl rfl) ?_ ?_
    · refine .inr ?_; simp; done
    refine GQ.take rfl rfl ?_ ?_
    · simp; done
    refine GQ.r rfl rfl rfl rfl (grd_move rfl rfl) ?_ ?_
    · refine .inr ?_; simp; done
    refine GQ.take rfl rfl ?_ ?_
    · simp; done
    focus
      refine GQ.r rfl rfl rfl rfl (grd_loadNK (b := ?_) (cs := ?_) tab_is rfl rfl rfl rfl ?_ ?_ ?_) ?_ ?_
      rotate_left 2
      refine (HExt.eq (by assumption) _ ?_ ?_).trans ?_
      · omega
      · intro h; cases h; done
      refine (HExt.eq (by assumption) _ ?_ ?_).trans ?_
      · omega
      · intro h; cases h; done
      refine (HExt.eq (by assumption) _ ?_ ?_).trans ?_
      · omega
      · simp; omega
      refine (HExt.eq (by assumption) _ ?_ ?_).trans ?_
      · omega
      · simp; omega
      refine (HExt.eq (by assumption) _ ?_ ?_).trans ?_
      · omega
      · intro h; cases h; done
      refine (HExt.eq (by assumption) _ ?_ ?_).trans ?_
      · omega
      · intro h; cases h; done
      refine (HExt.eq (by assumption) _ ?_ ?_).trans ?_
      · omega
      · simp; omega
      refine (HExt.eq (by assumption) _ ?_ ?_).trans ?_
      · simp; omega
      · intro h; cases h; done
      refine (Hp.at_push_lt ?_).trans ?_
      · omega
      refine (HExt.eq (by assumption) _ ?_ ?_).trans ?_
      · simp; done
      · intro h; cases h; done
      refine Hp.at_put_eq ?_
      · simp; done
      · exact Nat.le_of_ble_eq_true rfl
      · simp [Value.cells]; rfl
      · refine .inr ?_; simp; done
    refine GQ.nil ?_
    refine GPcs.write true (blkOf pf33 ++ (blkOf pf2 ++ [List.length Hxf1])) rfl rfl ?_ rfl rfl (gopf_call rfl Try.call106 rfl ?_ (hPl _ _ _ _ ?_)) rfl ?_ ?_ ?_ ?_
    · simp; done
    · intro _ h; cases h; done
    focus
      refine BS.ext (by assumption) ?_
      refine HExt.tr ?_ (by assumption) ?_
      · assumption
      · intro _ h; cases h; done
    · intro _ h; cases h; done
    focus
      refine prt_app (BS.ext (by assumption) ?_) ?_ ?_
      focus
        · assumption
      focus
        · intro _ h; cases h; done
      focus
        refine prt_app (BS.ext (by assumption) ?_) ?_ ?_
        focus
          refine HExt.tr ?_ (by assumption) ?_
          refine HExt.tr ?_ (by assumption) ?_
          refine HExt.tr ?_ (by assumption) ?_
          refine HExt.tr ?_ (by assumption) ?_
          refine HExt.tr ?_ (by assumption) ?_
          refine HExt.tr ?_ (by assumption) ?_
          refine HExt.tr ?_ (by assumption) ?_
          refine HExt.tr ?_ (by assumption) ?_
          refine HExt.push ?_
          · exact HExt.refl _ _
          · intro _ h; cases h; done
          · simp; omega
          · intro _ h; cases h; done
          · intro _ h; cases h; done
          · simp; omega
          · simp; omega
          · intro _ h; cases h; done
          · intro _ h; cases h; done
        focus
          · intro _ h; cases h; done
        focus
          focus
            refine List.forall_mem_cons.2 ⟨⟨⟨?_, ?_⟩, ?_⟩, ?_⟩
            rotate_left 1
            refine (HExt.eq (by assumption) _ ?_ ?_).trans ?_
            · omega
            · intro h; cases h; done
            refine (HExt.eq (by assumption) _ ?_ ?_).trans ?_
            · omega
            · intro h; cases h; done
            refine (HExt.eq (by assumption) _ ?_ ?_).trans ?_
            · omega
            · simp; omega
            refine (HExt.eq (by assumption) _ ?_ ?_).trans ?_
            · omega
            · simp; omega
            refine (HExt.eq (by assumption) _ ?_ ?_).trans ?_
            · omega
            · intro h; cases h; done
            refine (HExt.eq (by assumption) _ ?_ ?_).trans ?_
            · omega
            · intro h; cases h; done
            refine (HExt.eq (by assumption) _ ?_ ?_).trans ?_
            · omega
            · simp; omega
            refine (HExt.eq (by assumption) _ ?_ ?_).trans ?_
            · simp; omega
            · intro h; cases h; done
            refine (Hp.at_push_lt ?_).trans ?_
            · omega
            refine (HExt.eq (by assumption) _ ?_ ?_).trans ?_
            · simp; done
            · intro h; cases h; done
            refine Hp.at_put_eq ?_
            · simp; done
            · intro h; cases h; done
            · intro _ h; cases h; done
    · simp; done
    rintro _ Hxf38 ⟨rfl, xf38⟩
    have xf38l := HExt.len xf38; try simp at xf38l
    refine ⟨?_, ?_⟩
    focus
      refine prt_len (BS.ext (by assumption) ?_) ?_
      focus
        refine HExt.tr ?_ (by assumption) ?_
        · assumption
        · intro _ h; cases h; done
      focus
        refine prt_len (BS.ext (by assumption) ?_) ?_
        focus
          refine HExt.tr ?_ (by assumption) ?_
          refine HExt.tr ?_ (by assumption) ?_
          refine HExt.tr ?_ (by assumption) ?_
          refine HExt.tr ?_ (by assumption) ?_
          refine HExt.tr ?_ (by assumption) ?_
          refine HExt.tr ?_ (by assumption) ?_
          refine HExt.tr ?_ (by assumption) ?_
          refine HExt.tr ?_ (by assumption) ?_
          refine HExt.tr ?_ (by assumption) ?_
          refine HExt.push ?_
          · exact HExt.refl _ _
          · intro _ h; cases h; done
          · simp; omega
          · intro _ h; cases h; done
          · intro _ h; cases h; done
          · simp; omega
          · simp; omega
          · intro _ h; cases h; done
          · intro _ h; cases h; done
          · intro _ h; cases h; done
        focus
          · simp; omega
    refine GPcs.reads (by simp only [List.filterMap_cons, List.filterMap_nil, List.getElem?_toArray, List.getElem?_cons_succ, List.getElem?_cons_zero]; rfl) ?_
    refine GQ.take rfl rfl ?_ ?_
    · simp; done
    focus
      refine GQ.r rfl rfl rfl rfl (grd_aeqlK (b := ?_) tab_is rfl rfl rfl rfl rfl rfl ?_ ?_ ?_) ?_ ?_
      rotate_left 1
      · rfl
      · rfl
      · simp [lEq, cEq]; rfl
      · exact .inl rfl
    refine GQ.r rfl rfl rfl rfl (grd_pick_t rfl rfl ?_ rfl) ?_ ?_
    · exact decide_eq_true (by omega)
    · exact .inl rfl
    refine GQ.r rfl rfl rfl rfl (grd_move rfl rfl) ?_ ?_
    · exact .inl rfl
    refine GQ.take rfl rfl ?_ ?_
    · simp; done
    refine GQ.r rfl rfl rfl rfl (grd_move rfl rfl) ?_ ?_
    · exact .inl rfl
    refine GQ.take rfl rfl ?_ ?_
    · simp; done
    refine GQ.r rfl rfl rfl rfl (grd_eql rfl rfl rfl) ?_ ?_
    · exact .inl rfl
    refine GQ.r rfl rfl rfl rfl (grd_pick_t rfl rfl ?_ rfl) ?_ ?_
    · with_reducible rfl
    · exact .inl rfl
    refine GQ.r rfl rfl rfl rfl (grd_assign rfl rfl) ?_ ?_
    · exact .inl rfl
    refine GQ.nil ?_
    refine GPcs.nil ?_
    refine GWP.ret ?_
    refine ⟨_, .one rfl, ?_⟩
    refine ⟨?_, ?_⟩
    · rfl
    refine HExt.tr ?_ (by assumption) ?_
    refine HExt.tr ?_ (by assumption) ?_
    refine HExt.tr ?_ (by assumption) ?_
    refine HExt.tr ?_ (by assumption) ?_
    refine HExt.tr ?_ (by assumption) ?_
    refine HExt.tr ?_ (by assumption) ?_
    refine HExt.tr ?_ (by assumption) ?_
    refine HExt.tr ?_ (by assumption) ?_
    refine HExt.tr ?_ (by assumption) ?_
    refine HExt.push ?_
    refine HExt.tr ?_ (by assumption) ?_
    refine HExt.put ?_ ?_
    refine HExt.push ?_
    · assumption
    · exact .inr (by omega)
    · intro _ h; cases h; done
    · intro _ h; cases h; done
    · simp; omega
    · intro _ h; cases h; done
    · intro _ h; cases h; done
    · simp; omega
    · simp; omega
    · intro _ h; cases h; done
    · intro _ h; cases h; done
    · intro _ h; cases h; done
set_option maxHeartbeats 4000000 in
set_option maxRecDepth 100000 in
set_option linter.unusedSimpArgs false in
theorem g_checkD0 (H : Hp) (p : Option Addr) (n c : Nat) (L : List UInt8) (hb : BS H (.slice p n c) L) (hn : ¬ (1 ≤ n ∧ n ≤ 160)) : GCalls Try.prog 50 [.iface 97 (.slice p n c)] [] H fun v H' => v = .bool true ∧ HExt [] H H' := by
  have hln := hb.len
  have hnL : ¬ (1 ≤ L.length ∧ L.length ≤ 160) := by omega
  have hB := fun H => g_sbytesD0 H p n c hn
  have hPl := fun H p n c hb => g_plainD H p n c L hb
  have hR := fun H => g_rightD H 68 L rfl
  rw [decide_eq_false hnL] at hR
  unfold blkV at hPl
  have hP := fun (H : Hp) g => g_sput0 H g _ (hB H)
  refine GCalls.body tab_is Try.func50 rfl Try.results50 Try.ntmps50 (by simp) ?_ ?_
  · first | (intro _ h; cases h; done) | (simp; done) | (simp; omega) | (intro i hi; simp at hi; rcases hi with rfl | rfl <;> omega) | (intro i hi; simp at hi; rcases hi with rfl | rfl | rfl <;> omega)
  focus
    refine GWP.seq ?_
    refine GWP.region ?_
    refine GOps.r rfl rfl rfl rfl (grd_assign rfl rfl) ?_
    refine GOps.nil ?_
    refine GWP.seq ?_
    refine GWP.region ?_
    refine GOps.r rfl rfl rfl rfl (grd_move rfl rfl) ?_
    refine GOps.w rfl rfl rfl rfl (gop_call rfl Try.call106 rfl ?_ (hPl _ _ _ _ ?_)) ?_
    · intro _ h; cases h; done
    · assumption
    rintro _ Hxh1 ⟨rfl, xh1⟩
    have xh1l := HExt.len xh1; try simp at xh1l
    focus
      refine GOps.w1 rfl rfl rfl rfl (gop_alloc' (id := ?_) ?_ tab_is rfl rfl ?_) ?_
      rotate_left 1
      · rfl
      · decide
    focus
      refine GOps.s rfl rfl rfl (gop_storeC (b := ?_) (cs := ?_) tab_is rfl rfl ?_ rfl rfl ?_ ?_ ?_ ?_ ?_ ?_) ?_
      rotate_left 2
      · rfl
      · rfl
      · exact Hp.at_push_eq
      · rfl
      · exact Nat.le_of_ble_eq_true rfl
      · exact .inr (by omega)
      · simp [splice, Value.cells]; rfl
    refine GOps.nil ?_
    refine GWP.seq ?_
    refine GWP.region ?_
    refine GOps.r rfl rfl rfl rfl (grd_move rfl rfl) ?_
    refine GOps.w rfl rfl rfl rfl (gop_call rfl Try.call49 rfl ?_ (hB _)) ?_
    · intro _ h; cases h; done
    rintro _ Hxh2 ⟨rfl, xh2⟩
    have xh2l := HExt.len xh2; try simp at xh2l
    refine GOps.r rfl rfl rfl rfl (grd_move rfl rfl) ?_
    focus
      refine GOps.r rfl rfl rfl rfl (grd_extract (v := ?_) rfl rfl ?_) ?_
      rotate_left 1
      · simp only [List.getElem?_toArray, List.getElem?_cons_zero, List.getElem?_cons_succ]; rfl
    focus
      refine GOps.r rfl rfl rfl rfl (grd_extract (v := ?_) rfl rfl ?_) ?_
      rotate_left 1
      · simp only [List.getElem?_toArray, List.getElem?_cons_zero, List.getElem?_cons_succ]; rfl
    refine GOps.r rfl rfl rfl rfl (grd_assign rfl rfl) ?_
    refine GOps.r rfl rfl rfl rfl (grd_assign rfl rfl) ?_
    refine GOps.nil ?_
    refine GWP.seq ?_
    refine GWP.region ?_
    focus
      refine GOps.r rfl rfl rfl rfl (grd_build (cs := ?_) tab_is rfl rfl rfl ?_ rfl ?_) ?_
      rotate_left 1
      · decide
      · simp [gfill, gsets, Value.cells]; rfl
    refine GOps.w1 rfl rfl rfl rfl (gop_call rfl Try.call15 rfl ?_ (g_pnew0 _)) ?_
    · intro _ h; cases h; done
    refine GOps.w rfl rfl rfl rfl (gop_call rfl Try.call27 rfl ?_ (g_tnew0 _ _)) ?_
    · intro _ h; cases h; done
    rintro _ Hxh6 ⟨⟨gh3, rfl, lh4, th5⟩, xh6⟩
    simp at lh4
    have xh6l := HExt.len xh6; try simp at xh6l
    have th5q := Hp.at_lt th5
    refine GOps.r rfl rfl rfl rfl (grd_move rfl rfl) ?_
    focus
      refine GOps.r rfl rfl rfl rfl (grd_extract (v := ?_) rfl rfl ?_) ?_
      rotate_left 1
      · simp only [List.getElem?_toArray, List.getElem?_cons_zero, List.getElem?_cons_succ]; rfl
    focus
      refine GOps.r rfl rfl rfl rfl (grd_extract (v := ?_) rfl rfl ?_) ?_
      rotate_left 1
      · simp only [List.getElem?_toArray, List.getElem?_cons_zero, List.getElem?_cons_succ]; rfl
    refine GOps.r rfl rfl rfl rfl (grd_assign rfl rfl) ?_
    refine GOps.r rfl rfl rfl rfl (grd_assign rfl rfl) ?_
    refine GOps.nil ?_
    refine GWP.seq ?_
    refine GWP.region ?_
    refine GOps.r rfl rfl rfl rfl (grd_move rfl rfl) ?_
    refine GOps.r rfl rfl rfl rfl (grd_move rfl rfl) ?_
    refine GOps.w rfl rfl rfl rfl (gop_call rfl Try.call107 rfl ?_ (hP _ _)) ?_
    · intro _ h; cases h; done
    rintro _ Hxh7 ⟨rfl, xh7⟩
    have xh7l := HExt.len xh7; try simp at xh7l
    refine GOps.r rfl rfl rfl rfl (grd_assign rfl rfl) ?_
    refine GOps.nil ?_
    refine GWP.seq ?_
    refine GWP.seq ?_
    refine GWP.region ?_
    focus
      refine GOps.r rfl rfl rfl rfl (grd_loadNK (b := ?_) (cs := ?_) tab_is rfl rfl rfl rfl ?_ ?_ ?_) ?_
      rotate_left 2
      refine (HExt.eq (by assumption) _ ?_ ?_).trans ?_
      · omega
      · intro h; cases h; done
      refine (HExt.eq (by assumption) _ ?_ ?_).trans ?_
      · simp; omega
      · intro h; cases h; done
      refine (Hp.at_push_lt ?_).trans ?_
      · omega
      refine (HExt.eq (by assumption) _ ?_ ?_).trans ?_
      · simp; done
      · intro h; cases h; done
      refine Hp.at_put_eq ?_
      · simp; done
      · exact Nat.le_of_ble_eq_true rfl
      · simp [Value.cells]; rfl
    refine GOps.w rfl rfl rfl rfl (gop_call rfl Try.call108 rfl ?_ (hR _)) ?_
    · intro _ h; cases h; done
    rintro _ Hxh8 ⟨rfl, xh8⟩
    have xh8l := HExt.len xh8; try simp at xh8l
    refine GOps.r rfl rfl rfl rfl (grd_not rfl rfl) ?_
    refine GOps.nil ?_
    refine GWP.cond_t rfl ?_ ?_
    · simp; done
    refine GWP.seq ?_
    refine GWP.region ?_
    refine GOps.r rfl rfl rfl rfl (grd_move rfl rfl) ?_
    refine GOps.r rfl rfl rfl rfl (grd_eql rfl rfl rfl) ?_
    refine GOps.r rfl rfl rfl rfl (grd_move rfl rfl) ?_
    refine GOps.take rfl rfl ?_ ?_
    · simp; done
    refine GOps.r rfl rfl rfl rfl (grd_move rfl rfl) ?_
    refine GOps.take rfl rfl ?_ ?_
    · simp; done
    refine GOps.r rfl rfl rfl rfl (grd_len tab_is rfl rfl rfl rfl rfl) ?_
    refine GOps.take rfl rfl ?_ ?_
    · simp; done
    refine GOps.r rfl rfl rfl rfl (grd_eql rfl rfl rfl) ?_
    refine GOps.r rfl rfl rfl rfl (grd_pick_t rfl rfl ?_ rfl) ?_
    · exact decide_eq_true (by omega)
    refine GOps.r rfl rfl rfl rfl (grd_move rfl rfl) ?_
    refine GOps.take rfl rfl ?_ ?_
    · simp; done
    refine GOps.r rfl rfl rfl rfl (grd_move rfl rfl) ?_
    refine GOps.take rfl rfl ?_ ?_
    · simp; done
    refine GOps.r rfl rfl rfl rfl (grd_eql rfl rfl rfl) ?_
    refine GOps.r rfl rfl rfl rfl (grd_pick_t rfl rfl ?_ rfl) ?_
    · exact decide_eq_true (by omega)
    refine GOps.r rfl rfl rfl rfl (grd_move rfl rfl) ?_
    refine GOps.take rfl rfl ?_ ?_
    · simp; done
    refine GOps.r rfl rfl rfl rfl (grd_move rfl rfl) ?_
    refine GOps.take rfl rfl ?_ ?_
    · simp; done
    focus
      refine GOps.w1 rfl rfl rfl rfl (gop_call rfl Try.call30 rfl ?_ (g_tlen0 _ _ ?_ ?_)) ?_
      · intro _ h; cases h; done
      rotate_left 1
      refine (HExt.eq (by assumption) _ ?_ ?_).trans ?_
      · omega
      · intro h; cases h; done
      refine (HExt.eq (by assumption) _ ?_ ?_).trans ?_
      · omega
      · intro h; cases h; done
      · assumption
    refine GOps.take rfl rfl ?_ ?_
    · simp; done
    refine GOps.r rfl rfl rfl rfl (grd_eql rfl rfl rfl) ?_
    refine GOps.r rfl rfl rfl rfl (grd_pick_t rfl rfl ?_ rfl) ?_
    · exact decide_eq_true (by omega)
    refine GOps.r rfl rfl rfl rfl (grd_assign rfl rfl) ?_
    refine GOps.nil ?_
    refine GWP.ret ?_
    refine ⟨_, .one rfl, ?_⟩
    refine ⟨?_, ?_⟩
    · rfl
    refine HExt.tr ?_ (by assumption) ?_
    refine HExt.tr ?_ (by assumption) ?_
    refine HExt.tr ?_ (by assumption) ?_
    refine HExt.push ?_
    refine HExt.tr ?_ (by assumption) ?_
    refine HExt.put ?_ ?_
    refine HExt.push ?_
    · assumption
    · exact .inr (by omega)
    · intro _ h; cases h; done
    · intro _ h; cases h; done
    · intro _ h; cases h; done
    · intro _ h; cases h; done
set_option maxHeartbeats 4000000 in
set_option maxRecDepth 100000 in
set_option linter.unusedSimpArgs false in
theorem g_checkHA (H : Hp) (a b c d e : Int) : GCalls Try.prog 50 [.iface 92 (.agg #[.int .i64 a, .int .i64 b, .int .i64 c, .int .i64 d, .int .i64 e])] [] H fun v H' => v = .bool true ∧ HExt [] H H' := by
  by_cases hr : okN a ∧ okN b ∧ okN c ∧ okN d ∧ okN e
  · obtain ⟨⟨a0, a1⟩, ⟨b0, b1⟩, ⟨c0, c1⟩, ⟨d0, d1⟩, ⟨e0, e1⟩⟩ := hr
    obtain ⟨a, rfl⟩ := Int.eq_ofNat_of_zero_le a0
    obtain ⟨b, rfl⟩ := Int.eq_ofNat_of_zero_le b0
    obtain ⟨c, rfl⟩ := Int.eq_ofNat_of_zero_le c0
    obtain ⟨d, rfl⟩ := Int.eq_ofNat_of_zero_le d0
    obtain ⟨e, rfl⟩ := Int.eq_ofNat_of_zero_le e0
    exact g_checkH H a b c d e (by omega) (by omega) (by omega) (by omega) (by omega)
  · exact g_checkH0 H a b c d e hr
set_option maxHeartbeats 4000000 in
set_option maxRecDepth 100000 in
set_option linter.unusedSimpArgs false in
theorem g_checkTA (H : Hp) (a b c d : Int) (l : Bool) : GCalls Try.prog 50 [.iface 94 (.agg #[.int .i64 a, .int .i64 b, .int .i64 c, .int .i64 d, .bool l])] [] H fun v H' => v = .bool true ∧ HExt [] H H' := by
  by_cases hr : okN a ∧ okN b ∧ okN c ∧ okN d
  · obtain ⟨⟨a0, a1⟩, ⟨b0, b1⟩, ⟨c0, c1⟩, ⟨d0, d1⟩⟩ := hr
    obtain ⟨a, rfl⟩ := Int.eq_ofNat_of_zero_le a0
    obtain ⟨b, rfl⟩ := Int.eq_ofNat_of_zero_le b0
    obtain ⟨c, rfl⟩ := Int.eq_ofNat_of_zero_le c0
    obtain ⟨d, rfl⟩ := Int.eq_ofNat_of_zero_le d0
    exact g_checkT H a b c d _ l rfl (by omega) (by omega) (by omega) (by omega)
  · exact g_checkT0 H a b c d l hr
set_option maxHeartbeats 4000000 in
set_option maxRecDepth 100000 in
set_option linter.unusedSimpArgs false in
theorem g_checkDA (H : Hp) (p : Option Addr) (n c : Nat) (L : List UInt8) (hb : BS H (.slice p n c) L) : GCalls Try.prog 50 [.iface 97 (.slice p n c)] [] H fun v H' => v = .bool true ∧ HExt [] H H' := by
  by_cases hn : 1 ≤ n ∧ n ≤ 160
  · exact g_checkD H p n c L hb hn
  · exact g_checkD0 H p n c L hb hn
set_option maxHeartbeats 4000000 in
set_option maxRecDepth 100000 in
set_option linter.unusedSimpArgs false in
theorem g_segmentBlocks (H : Hp) (a b c d e : Int) (a2 b2 c2 d2 : Int) (l2 : Bool) (p : Option Addr) (n m : Nat) (L : List UInt8) (hb : BS H (.slice p n m) L) : GCalls Try.prog 7 [.agg #[.int .i64 a, .int .i64 b, .int .i64 c, .int .i64 d, .int .i64 e], .agg #[.int .i64 a2, .int .i64 b2, .int .i64 c2, .int .i64 d2, .bool l2], .slice p n m] [] H fun v _ => v = .bool true := by
  by_cases hn : 500 < n
  ·
    refine GCalls.body tab_is Try.func7 rfl Try.results7 Try.ntmps7 (by simp) ?_ ?_
    · first | (intro _ h; cases h; done) | (simp; done) | (simp; omega) | (intro i hi; simp at hi; rcases hi with rfl | rfl <;> omega) | (intro i hi; simp at hi; rcases hi with rfl | rfl | rfl <;> omega)
    focus
      refine GWP.seq ?_
      refine GWP.region ?_
      focus
        refine GOps.w1 rfl rfl rfl rfl (gop_box' (id := ?_) ?_ rfl rfl rfl) ?_
        rotate_left 1
        · rfl
      focus
        refine GOps.w1 rfl rfl rfl rfl (gop_box' (id := ?_) ?_ rfl rfl rfl) ?_
        rotate_left 1
        · simp; rfl
      refine GOps.r rfl rfl rfl rfl (grd_assign rfl rfl) ?_
      refine GOps.nil ?_
      refine GWP.seq ?_
      refine GWP.seq ?_
      refine GWP.region ?_
      refine GOps.w1 rfl rfl rfl rfl (gop_call0 (f := 48) rfl Try.call48 ?_ (g_lives15 _)) ?_
      · intro _ h; cases h; done
      refine GOps.r rfl rfl rfl rfl (grd_not rfl rfl) ?_
      refine GOps.r rfl rfl rfl rfl (grd_move rfl rfl) ?_
      refine GOps.take rfl rfl ?_ ?_
      · simp; done
      refine GOps.r rfl rfl rfl rfl (grd_move rfl rfl) ?_
      refine GOps.take rfl rfl ?_ ?_
      · simp; done
      refine GOps.r rfl rfl rfl rfl (grd_len tab_is rfl rfl rfl rfl rfl) ?_
      refine GOps.take rfl rfl ?_ ?_
      · simp; done
      refine GOps.r rfl rfl rfl rfl (grd_gtr rfl rfl rfl) ?_
      refine GOps.r rfl rfl rfl rfl (grd_pick_f rfl rfl ?_ rfl) ?_
      · simp; done
      refine GOps.nil ?_
      refine GWP.cond_t rfl ?_ ?_
      · exact decide_eq_true (by omega)
      refine GWP.seq ?_
      refine GWP.region ?_
      refine GOps.w1 rfl rfl rfl rfl (gop_call0 (f := 48) rfl Try.call48 ?_ (g_lives15 _)) ?_
      · intro _ h; cases h; done
      refine GOps.r rfl rfl rfl rfl (grd_assign rfl rfl) ?_
      refine GOps.nil ?_
      refine GWP.ret ?_
      refine ⟨_, .one rfl, ?_⟩
      · rfl
  ·
    refine GCalls.body tab_is Try.func7 rfl Try.results7 Try.ntmps7 (by simp) ?_ ?_
    · first | (intro _ h; cases h; done) | (simp; done) | (simp; omega) | (intro i hi; simp at hi; rcases hi with rfl | rfl <;> omega) | (intro i hi; simp at hi; rcases hi with rfl | rfl | rfl <;> omega)
    focus
      refine GWP.seq ?_
      refine GWP.region ?_
      focus
        refine GOps.w1 rfl rfl rfl rfl (gop_box' (id := ?_) ?_ rfl rfl rfl) ?_
        rotate_left 1
        · rfl
      focus
        refine GOps.w1 rfl rfl rfl rfl (gop_box' (id := ?_) ?_ rfl rfl rfl) ?_
        rotate_left 1
        · simp; rfl
      refine GOps.r rfl rfl rfl rfl (grd_assign rfl rfl) ?_
      refine GOps.nil ?_
      refine GWP.seq ?_
      refine GWP.seq ?_
      refine GWP.region ?_
      refine GOps.w1 rfl rfl rfl rfl (gop_call0 (f := 48) rfl Try.call48 ?_ (g_lives15 _)) ?_
      · intro _ h; cases h; done
      refine GOps.r rfl rfl rfl rfl (grd_not rfl rfl) ?_
      refine GOps.r rfl rfl rfl rfl (grd_move rfl rfl) ?_
      refine GOps.take rfl rfl ?_ ?_
      · simp; done
      refine GOps.r rfl rfl rfl rfl (grd_move rfl rfl) ?_
      refine GOps.take rfl rfl ?_ ?_
      · simp; done
      refine GOps.r rfl rfl rfl rfl (grd_len tab_is rfl rfl rfl rfl rfl) ?_
      refine GOps.take rfl rfl ?_ ?_
      · simp; done
      refine GOps.r rfl rfl rfl rfl (grd_gtr rfl rfl rfl) ?_
      refine GOps.r rfl rfl rfl rfl (grd_pick_f rfl rfl ?_ rfl) ?_
      · simp; done
      refine GOps.nil ?_
      refine GWP.cond_f rfl ?_ ?_
      · exact decide_eq_false (by omega)
      refine GWP.skip ?_
      refine GWP.seq ?_
      refine GWP.region ?_
      refine GOps.w rfl rfl rfl rfl (gop_call rfl Try.call49 rfl ?_ (g_sbytes0 _)) ?_
      · intro _ h; cases h; done
      rintro _ Hxj1 ⟨rfl, xj1⟩
      have xj1l := HExt.len xj1; try simp at xj1l
      refine GOps.r rfl rfl rfl rfl (grd_move rfl rfl) ?_
      focus
        refine GOps.r rfl rfl rfl rfl (grd_extract (v := ?_) rfl rfl ?_) ?_
        rotate_left 1
        · simp only [List.getElem?_toArray, List.getElem?_cons_zero, List.getElem?_cons_succ]; rfl
      focus
        refine GOps.r rfl rfl rfl rfl (grd_extract (v := ?_) rfl rfl ?_) ?_
        rotate_left 1
        · simp only [List.getElem?_toArray, List.getElem?_cons_zero, List.getElem?_cons_succ]; rfl
      refine GOps.r rfl rfl rfl rfl (grd_assign rfl rfl) ?_
      refine GOps.r rfl rfl rfl rfl (grd_assign rfl rfl) ?_
      refine GOps.nil ?_
      refine GWP.seq ?_
      refine GWP.region ?_
      focus
        refine GOps.r rfl rfl rfl rfl (grd_loadNK (b := ?_) (cs := ?_) tab_is rfl rfl rfl rfl ?_ ?_ ?_) ?_
        rotate_left 2
        refine (HExt.eq (by assumption) _ ?_ ?_).trans ?_
        · simp; omega
        · intro h; cases h; done
        refine (Hp.at_push_lt ?_).trans ?_
        · simp; done
        · exact Hp.at_push_eq
        · exact Nat.le_of_ble_eq_true rfl
        · simp [Value.cells]; rfl
      refine GOps.r rfl rfl rfl rfl (grd_mkI tab_is rfl rfl rfl rfl) ?_
      refine GOps.w rfl rfl rfl rfl (gop_call rfl Try.call50 rfl ?_ (g_checkHA _ _ _ _ _ _)) ?_
      · intro _ h; cases h; done
      rintro _ Hxj2 ⟨rfl, xj2⟩
      have xj2l := HExt.len xj2; try simp at xj2l
      refine GOps.r rfl rfl rfl rfl (grd_move rfl rfl) ?_
      refine GOps.take rfl rfl ?_ ?_
      · simp; done
      focus
        refine GOps.r rfl rfl rfl rfl (grd_loadNK (b := ?_) (cs := ?_) tab_is rfl rfl rfl rfl ?_ ?_ ?_) ?_
        rotate_left 2
        refine (HExt.eq (by assumption) _ ?_ ?_).trans ?_
        · omega
        · intro h; cases h; done
        refine (HExt.eq (by assumption) _ ?_ ?_).trans ?_
        · simp; done
        · intro h; cases h; done
        refine Hp.at_push_id ?_
        · simp; done
        · exact Nat.le_of_ble_eq_true rfl
        · simp [Value.cells]; rfl
      refine GOps.take rfl rfl ?_ ?_
      · simp; done
      refine GOps.r rfl rfl rfl rfl (grd_mkI tab_is rfl rfl rfl rfl) ?_
      refine GOps.take rfl rfl ?_ ?_
      · simp; done
      refine GOps.w rfl rfl rfl rfl (gop_call rfl Try.call50 rfl ?_ (g_checkTA _ _ _ _ _ _)) ?_
      · intro _ h; cases h; done
      rintro _ Hxj3 ⟨rfl, xj3⟩
      have xj3l := HExt.len xj3; try simp at xj3l
      refine GOps.r rfl rfl rfl rfl (grd_pick_t rfl rfl ?_ rfl) ?_
      · with_reducible rfl
      refine GOps.r rfl rfl rfl rfl (grd_move rfl rfl) ?_
      refine GOps.take rfl rfl ?_ ?_
      · simp; done
      refine GOps.r rfl rfl rfl rfl (grd_move rfl rfl) ?_
      refine GOps.take rfl rfl ?_ ?_
      · simp; done
      refine GOps.r rfl rfl rfl rfl (grd_mkI tab_is rfl rfl rfl rfl) ?_
      refine GOps.take rfl rfl ?_ ?_
      · simp; done
      refine GOps.w rfl rfl rfl rfl (gop_call rfl Try.call50 rfl ?_ (g_checkDA _ _ _ _ L ?_)) ?_
      · intro _ h; cases h; done
      focus
        refine BS.ext (by assumption) ?_
        refine HExt.tr ?_ (by assumption) ?_
        refine HExt.tr ?_ (by assumption) ?_
        refine HExt.tr ?_ (by assumption) ?_
        refine HExt.push ?_
        refine HExt.push ?_
        · exact HExt.refl _ _
        · intro _ h; cases h; done
        · intro _ h; cases h; done
        · intro _ h; cases h; done
      rintro _ Hxj4 ⟨rfl, xj4⟩
      have xj4l := HExt.len xj4; try simp at xj4l
      refine GOps.r rfl rfl rfl rfl (grd_pick_t rfl rfl ?_ rfl) ?_
      · with_reducible rfl
      refine GOps.r rfl rfl rfl rfl (grd_move rfl rfl) ?_
      refine GOps.take rfl rfl ?_ ?_
      · simp; done
      refine GOps.r rfl rfl rfl rfl (grd_move rfl rfl) ?_
      refine GOps.take rfl rfl ?_ ?_
      · simp; done
      refine GOps.r rfl rfl rfl rfl (grd_eql rfl rfl rfl) ?_
      refine GOps.r rfl rfl rfl rfl (grd_pick_t rfl rfl ?_ rfl) ?_
      · with_reducible rfl
      refine GOps.r rfl rfl rfl rfl (grd_assign rfl rfl) ?_
      refine GOps.nil ?_
      refine GWP.ret ?_
      refine ⟨_, .one rfl, ?_⟩
      · rfl
end Go.Proofs.Ytcbngjpihcemiaa

/- Any blocks' bytes: what came in. -/
namespace Go.Proofs.Ytcbngjpihcemiaa
open Go.RowKit Go.ChangeShapes Go.WideShapes Go.ChangeAt

theorem list5L {α : Type} {l : List α} (h : l.length = 5) : ∃ a b c d e, l = [a, b, c, d, e] := by
  match l, h with
  | [a, b, c, d, e], _ => exact ⟨a, b, c, d, e, rfl⟩
set_option maxHeartbeats 4000000 in
set_option maxRecDepth 100000 in
set_option linter.unusedSimpArgs false in
theorem g_open_head {X : Type} {enc : TypeId × Value → X} {w : World} {v : Value} {d : DataW X} {p : List MemPlace} (hv : Value.okWide Try.prog w .any 0 92 v) (h : DataW.Trod enc Try.prog w 0 (fun _ => true) true 92 v d p) :
    ∃ a b c d e : Int, v = .agg #[.int .i64 a, .int .i64 b, .int .i64 c, .int .i64 d, .int .i64 e] := by
  obtain ⟨cs, rfl, hsz⟩ := okWide_struct Try.underlying92 hv
  obtain ⟨fuel, hf⟩ := h
  obtain ⟨hl, hs⟩ := open_struct Try.underlying92 hf
  have hc : Try.prog.cellsOf 92 = 5 := by kernel_rfl
  rw [hc] at hl
  simp only [Value.cells] at hs hl
  obtain ⟨c0, c1, c2, c3, c4, hcs⟩ := list5L hl
  rw [hcs] at hs
  obtain ⟨m0, y0, t0⟩ := hs 0 _ rfl
  obtain ⟨m1, y1, t1⟩ := hs 1 _ rfl
  obtain ⟨m2, y2, t2⟩ := hs 2 _ rfl
  obtain ⟨m3, y3, t3⟩ := hs 3 _ rfl
  obtain ⟨m4, y4, t4⟩ := hs 4 _ rfl
  obtain ⟨n0, q0, _⟩ := DataW.trod_int Try.underlying3 (trod_cs [c0] (by kernel_rfl) t0)
  obtain ⟨n1, q1, _⟩ := DataW.trod_int Try.underlying3 (trod_cs [c1] (by kernel_rfl) t1)
  obtain ⟨n2, q2, _⟩ := DataW.trod_int Try.underlying3 (trod_cs [c2] (by kernel_rfl) t2)
  obtain ⟨n3, q3, _⟩ := DataW.trod_int Try.underlying3 (trod_cs [c3] (by kernel_rfl) t3)
  obtain ⟨n4, q4, _⟩ := DataW.trod_int Try.underlying3 (trod_cs [c4] (by kernel_rfl) t4)
  simp only [List.cons.injEq, and_true] at q0 q1 q2 q3 q4
  subst q0 q1 q2 q3 q4
  exact ⟨n0, n1, n2, n3, n4, congrArg Value.agg (Array.ext' hcs)⟩
set_option maxHeartbeats 4000000 in
set_option maxRecDepth 100000 in
set_option linter.unusedSimpArgs false in
theorem g_open_end {X : Type} {enc : TypeId × Value → X} {w : World} {v : Value} {d : DataW X} {p : List MemPlace} (hv : Value.okWide Try.prog w .any 0 94 v) (h : DataW.Trod enc Try.prog w 0 (fun _ => true) true 94 v d p) :
    ∃ (a b c d : Int) (l : Bool), v = .agg #[.int .i64 a, .int .i64 b, .int .i64 c, .int .i64 d, .bool l] := by
  obtain ⟨cs, rfl, hsz⟩ := okWide_struct Try.underlying94 hv
  obtain ⟨fuel, hf⟩ := h
  obtain ⟨hl, hs⟩ := open_struct Try.underlying94 hf
  have hc : Try.prog.cellsOf 94 = 5 := by kernel_rfl
  rw [hc] at hl
  simp only [Value.cells] at hs hl
  obtain ⟨c0, c1, c2, c3, c4, hcs⟩ := list5L hl
  rw [hcs] at hs
  obtain ⟨m0, y0, t0⟩ := hs 0 _ rfl
  obtain ⟨m1, y1, t1⟩ := hs 1 _ rfl
  obtain ⟨m2, y2, t2⟩ := hs 2 _ rfl
  obtain ⟨m3, y3, t3⟩ := hs 3 _ rfl
  obtain ⟨m4, y4, t4⟩ := hs 4 _ rfl
  obtain ⟨n0, q0, _⟩ := DataW.trod_int Try.underlying3 (trod_cs [c0] (by kernel_rfl) t0)
  obtain ⟨n1, q1, _⟩ := DataW.trod_int Try.underlying3 (trod_cs [c1] (by kernel_rfl) t1)
  obtain ⟨n2, q2, _⟩ := DataW.trod_int Try.underlying3 (trod_cs [c2] (by kernel_rfl) t2)
  obtain ⟨n3, q3, _⟩ := DataW.trod_int Try.underlying3 (trod_cs [c3] (by kernel_rfl) t3)
  obtain ⟨n4, q4, _⟩ := DataW.trod_bool Try.underlying4 (trod_cs [c4] (by kernel_rfl) t4)
  simp only [List.cons.injEq, and_true] at q0 q1 q2 q3 q4
  subst q0 q1 q2 q3 q4
  exact ⟨n0, n1, n2, n3, n4, congrArg Value.agg (Array.ext' hcs)⟩
theorem segmentBlocks_walk (a b c d e a2 b2 c2 d2 : Int) (l2 : Bool) (A : Option Addr) (n m : Nat) (l : List UInt8) (hl : l.length = m) (hn : n ≤ m) (hm : m ≤ maxLen) (hA : A = none → n = 0 ∧ m = 0) (W : World) (h0 : ∃ (g : Nat) (rs : Array Value) (t : TypeId) (fz : Nat × Nat), W.heap[g]? = some (Obj.cells rs t fz)) (hr : Rd W W.heap.size A (vb l)) :
    Calls Try.prog 7 #[.agg #[.int .i64 a, .int .i64 b, .int .i64 c, .int .i64 d, .int .i64 e], .agg #[.int .i64 a2, .int .i64 b2, .int .i64 c2, .int .i64 d2, .bool l2], .slice A n m] W fun e w' => e = .returned (.bool true) ∧ Below W.heap.size W w' := by
  obtain ⟨μ1, H1, p1, s1, ro1, x1, k1, b1, v1⟩ := (SimH.nothing W).bytes Ro.nil h0 hn hm hA hr hl
  refine ((g_segmentBlocks H1 a b c d e a2 b2 c2 d2 l2 p1 n m _ b1).enter s1 (.cons (.agg (.cons (VR.plain rfl) (.cons (VR.plain rfl) (.cons (VR.plain rfl) (.cons (VR.plain rfl) (.cons (VR.plain rfl) .nil)))))) (.cons (.agg (.cons (VR.plain rfl) (.cons (VR.plain rfl) (.cons (VR.plain rfl) (.cons (VR.plain rfl) (.cons (VR.plain rfl) .nil)))))) (.cons v1 .nil))) (R := fun u => u = .bool true) (fun v hv => by rw [hv]; rfl)).mono ?_
  rintro e w' ⟨v, rfl, rfl, q⟩
  exact ⟨rfl, q⟩
end Go.Proofs.Ytcbngjpihcemiaa
