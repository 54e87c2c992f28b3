/- Any record's bytes: the law. -/
import Derived.Test.YtjlimdiimdihfaaZz3
import Derived.Test.YtjlimdiimdihfaaZz4
namespace Go.Proofs.Ytjlimdiimdihfaa
open Go.RowKit Go.ChangeShapes Go.WideShapes Go.ChangeAt

set_option maxHeartbeats 4000000 in
set_option maxRecDepth 100000 in
set_option linter.unusedSimpArgs false in
theorem g_recordBytes (H : Hp) (k : UInt8) (r : RecS) (p : Option Addr) (m cm : Nat) (hr : r.kind = (k.toNat : Int)) (hL : BS H (.slice p m cm) r.blocks) (h1 : -9223372036854775808 ≤ r.fr ∧ r.fr ≤ 9223372036854775807) (h2 : -9223372036854775808 ≤ r.til ∧ r.til ≤ 9223372036854775807) (h7 : 0 ≤ r.len ∧ r.len < 18446744073709551616) (h8 : 0 ≤ r.sum ∧ r.sum < 18446744073709551616) :
    GCalls Try.prog 4 [.agg #[.int .u8 r.kind, .int .i64 r.id, .int .i64 r.base, .int .i64 r.fr, .int .i64 r.til, .slice p m cm, .int .i64 r.count, .int .u64 r.len, .int .u64 r.sum]] [] H fun v _ => v = .bool true := by
  have hml := hL.len
  by_cases hm : 500 < m
  ·
    refine GCalls.body tab_is Try.func4 rfl Try.results4 Try.ntmps4 (by simp) ?_ ?_
    · first | (intro _ h; cases h; done) | (simp; done) | (simp; omega) | (intro i hi; simp at hi; rcases hi with rfl | rfl <;> omega) | (intro i hi; simp at hi; rcases hi with rfl | rfl | rfl <;> omega)
    focus
      refine GWP.seq ?_
      refine GWP.region ?_
      focus
        refine GOps.w1 rfl rfl rfl rfl (gop_box' (id := ?_) ?_ rfl rfl rfl) ?_
        rotate_left 1
        · rfl
      refine GOps.r rfl rfl rfl rfl (grd_assign rfl rfl) ?_
      refine GOps.nil ?_
      refine GWP.seq ?_
      refine GWP.seq ?_
      refine GWP.region ?_
      refine GOps.w1 rfl rfl rfl rfl (gop_call0 (f := 12) rfl Try.call12 ?_ (g_lives12 _)) ?_
      · intro _ h; cases h; done
      refine GOps.r rfl rfl rfl rfl (grd_not rfl rfl) ?_
      refine GOps.r rfl rfl rfl rfl (grd_move rfl rfl) ?_
      refine GOps.take rfl rfl ?_ ?_
      · simp; done
      refine GOps.r rfl rfl rfl rfl (grd_fieldAddr tab_is rfl rfl rfl rfl rfl) ?_
      refine GOps.take rfl rfl ?_ ?_
      · simp; done
      focus
        refine GOps.r rfl rfl rfl rfl (grd_load1 (b := ?_) (v := ?_) tab_is rfl rfl rfl rfl ?_ ?_) ?_
        rotate_left 2
        · exact Hp.at_push_eq
        · rfl
      refine GOps.take rfl rfl ?_ ?_
      · simp; done
      refine GOps.r rfl rfl rfl rfl (grd_len tab_is rfl rfl rfl rfl rfl) ?_
      refine GOps.take rfl rfl ?_ ?_
      · simp; done
      refine GOps.r rfl rfl rfl rfl (grd_gtr rfl rfl rfl) ?_
      refine GOps.r rfl rfl rfl rfl (grd_pick_f rfl rfl ?_ rfl) ?_
      · simp; done
      refine GOps.nil ?_
      refine GWP.cond_t rfl ?_ ?_
      · exact decide_eq_true (by omega)
      refine GWP.seq ?_
      refine GWP.region ?_
      refine GOps.w1 rfl rfl rfl rfl (gop_call0 (f := 12) rfl Try.call12 ?_ (g_lives12 _)) ?_
      · intro _ h; cases h; done
      refine GOps.r rfl rfl rfl rfl (grd_assign rfl rfl) ?_
      refine GOps.nil ?_
      refine GWP.ret ?_
      refine ⟨_, .one rfl, ?_⟩
      · rfl
  have hB := fun H p m cm hL hm => g_recbytes H k r p m cm hr hL hm h7 h8
  rw [← hr] at hB
  have hRt := fun H => g_rightG H k r hr h1 h2 h7 h8
  simp only [RecS.valT, recT] at hRt
  by_cases hrr : rightO r
  · rw [decide_eq_true hrr] at hRt
    have hX0 : 0 < (textL (sealL (bodyL k r))).length := by
      have := enc_pos (sealL (bodyL k r)).length
      unfold textL
      rw [List.length_append]
      omega
    have hX1 : (textL (sealL (bodyL k r))).length ≤ 2000 := by
      have e1 := bodyL_len k r
      have e2 := sealL_length (bodyL k r)
      have := enc_le (sealL (bodyL k r)).length (by omega)
      unfold textL
      rw [List.length_append]
      omega
    have hrd := rdrO_body hr hrr
    have hRd := fun H g p c h => g_rdread H g p c ⟨textL (sealL (bodyL k r)), 0⟩ h
    have hRB := fun H => g_rrbytes H k r hr hrr
    simp only [RecS.valT, recT] at hRB
    unfold rdrP at hRd
    generalize hX : textL (sealL (bodyL k r)) = X at *
    have hB2 := fun H p m cm hL hm => (hB H p m cm hL hm).mono (R' := fun v H' => (∃ j off c' t rw cs, v = .tuple #[.slice (some ⟨j, off, none⟩) X.length c', .int .i64 0] ∧ H'.at j = some ⟨t, 1, cs, rw⟩ ∧ (cs.drop off).take X.length = vb X ∧ off + X.length ≤ cs.length ∧ BS H' (.slice (some ⟨j, off, none⟩) X.length c') X) ∧ HExt [] H H') fun v H' ⟨⟨q, _⟩, x⟩ => by
      obtain ⟨p', c', e, b⟩ := q hrr
      obtain ⟨j, off, t, rw, cs, rfl, k1, k2, _, k3, _⟩ := bs_open b hX0
      exact ⟨⟨j, off, c', t, rw, cs, e, k1, k2, k3, b⟩, x⟩
    have hR := fun H g p c h => (hRd H g p c h).mono (R' := fun v H' => (∃ p' n' c', v = .tuple #[.agg #[.int .u8 r.kind, .int .i64 r.id, .int .i64 r.base, .int .i64 r.fr, .int .i64 r.til, .slice p' n' c', .int .i64 r.count, .int .u64 r.len, .int .u64 r.sum], .int .i64 0] ∧ BS H' (.slice p' n' c') r.blocks) ∧ BSk H H' ∧ HExt [g] H H') fun v H' h => ⟨h.1.2 r hrd, h.2.2⟩
    have hsm := fun H p1 p2 m n cm cn h1 h2 => g_rsame H r r p1 p2 m n cm cn h1 h2
    rw [RecS.same_self r] at hsm
    have hRB2 := fun H => (hRB H).mono (R' := fun v H' => (∃ j off c' t rw cs, v = .slice (some ⟨j, off, none⟩) X.length c' ∧ H'.at j = some ⟨t, 1, cs, rw⟩ ∧ (cs.drop off).take X.length = vb X ∧ off + X.length ≤ cs.length ∧ BS H' (.slice (some ⟨j, off, none⟩) X.length c') X) ∧ HExt [] H H') fun v H' ⟨⟨p', c', e, b⟩, x⟩ => by
      obtain ⟨j, off, t, rw, cs, rfl, k1, k2, _, k3, _⟩ := bs_open b hX0
      exact ⟨⟨j, off, c', t, rw, cs, e, k1, k2, k3, b⟩, x⟩
    clear hRd hB hrd hRB
    refine GCalls.body tab_is Try.func4 rfl Try.results4 Try.ntmps4 (by simp) ?_ ?_
    · first | (intro _ h; cases h; done) | (simp; done) | (simp; omega) | (intro i hi; simp at hi; rcases hi with rfl | rfl <;> omega) | (intro i hi; simp at hi; rcases hi with rfl | rfl | rfl <;> omega)
    focus
      refine GWP.seq ?_
      refine GWP.region ?_
      focus
        refine GOps.w1 rfl rfl rfl rfl (gop_box' (id := ?_) ?_ rfl rfl rfl) ?_
        rotate_left 1
        · rfl
      refine GOps.r rfl rfl rfl rfl (grd_assign rfl rfl) ?_
      refine GOps.nil ?_
      refine GWP.seq ?_
      refine GWP.seq ?_
      refine GWP.region ?_
      refine GOps.w1 rfl rfl rfl rfl (gop_call0 (f := 12) rfl Try.call12 ?_ (g_lives12 _)) ?_
      · intro _ h; cases h; done
      refine GOps.r rfl rfl rfl rfl (grd_not rfl rfl) ?_
      refine GOps.r rfl rfl rfl rfl (grd_move rfl rfl) ?_
      refine GOps.take rfl rfl ?_ ?_
      · simp; done
      refine GOps.r rfl rfl rfl rfl (grd_fieldAddr tab_is rfl rfl rfl rfl rfl) ?_
      refine GOps.take rfl rfl ?_ ?_
      · simp; done
      focus
        refine GOps.r rfl rfl rfl rfl (grd_load1 (b := ?_) (v := ?_) tab_is rfl rfl rfl rfl ?_ ?_) ?_
        rotate_left 2
        · exact Hp.at_push_eq
        · rfl
      refine GOps.take rfl rfl ?_ ?_
      · simp; done
      refine GOps.r rfl rfl rfl rfl (grd_len tab_is rfl rfl rfl rfl rfl) ?_
      refine GOps.take rfl rfl ?_ ?_
      · simp; done
      refine GOps.r rfl rfl rfl rfl (grd_gtr rfl rfl rfl) ?_
      refine GOps.r rfl rfl rfl rfl (grd_pick_f rfl rfl ?_ rfl) ?_
      · simp; done
      refine GOps.nil ?_
      refine GWP.cond_f rfl ?_ ?_
      · exact decide_eq_false (by omega)
      refine GWP.skip ?_
      refine GWP.seq ?_
      refine GWP.region ?_
      focus
        refine GOps.r rfl rfl rfl rfl (grd_loadNK (b := ?_) (cs := ?_) tab_is rfl rfl rfl rfl ?_ ?_ ?_) ?_
        rotate_left 2
        · exact Hp.at_push_eq
        · exact Nat.le_of_ble_eq_true rfl
        · simp [Value.cells]; rfl
      refine GOps.w rfl rfl rfl rfl (gop_call rfl Try.call13 rfl ?_ (g_rplain _ r _ _ _ ?_)) ?_
      · intro _ h; cases h; done
      focus
        refine BS.ext (by assumption) ?_
        refine HExt.push ?_
        · exact HExt.refl _ _
      rintro _ Hxb1 ⟨rfl, xb1⟩
      have xb1l := HExt.len xb1; try simp at xb1l
      focus
        refine GOps.w1 rfl rfl rfl rfl (gop_alloc' (id := ?_) ?_ tab_is rfl rfl ?_) ?_
        rotate_left 1
        · rfl
        · decide
      focus
        refine GOps.s rfl rfl rfl (gop_storeC (b := ?_) (cs := ?_) tab_is rfl rfl ?_ rfl rfl ?_ ?_ ?_ ?_ ?_ ?_) ?_
        rotate_left 2
        · rfl
        · rfl
        · exact Hp.at_push_eq
        · rfl
        · exact Nat.le_of_ble_eq_true rfl
        · exact .inr (by simp; omega)
        · simp [splice, Value.cells]; rfl
      refine GOps.nil ?_
      refine GWP.seq ?_
      refine GWP.region ?_
      focus
        refine GOps.r rfl rfl rfl rfl (grd_loadNK (b := ?_) (cs := ?_) tab_is rfl rfl rfl rfl ?_ ?_ ?_) ?_
        rotate_left 2
        refine (Hp.at_put_ne ?_).trans ?_
        · omega
        refine (Hp.at_push_lt ?_).trans ?_
        · omega
        refine (HExt.eq (by assumption) _ ?_ ?_).trans ?_
        · simp; done
        · intro h; cases h; done
        · exact Hp.at_push_eq
        · exact Nat.le_of_ble_eq_true rfl
        · simp [Value.cells]; rfl
      refine GOps.w rfl rfl rfl rfl (gop_call rfl Try.call14 rfl ?_ (hB2 _ _ _ _ ?_ ?_)) ?_
      · intro _ h; cases h; done
      focus
        refine BS.ext (by assumption) ?_
        refine HExt.put ?_ ?_
        refine HExt.push ?_
        refine HExt.tr ?_ (by assumption) ?_
        refine HExt.push ?_
        · exact HExt.refl _ _
        · intro _ h; cases h; done
        · exact .inr (by omega)
      · omega
      rintro _ Hxb12 ⟨⟨jb2, ob3, cb4, tb5, wb6, csb7, rfl, hbb8, hsb9, hob10, bb11⟩, xb12⟩
      have xb12l := HExt.len xb12; try simp at xb12l
      have hbb8q := Hp.at_lt hbb8
      refine GOps.r rfl rfl rfl rfl (grd_move rfl rfl) ?_
      focus
        refine GOps.r rfl rfl rfl rfl (grd_extract (v := ?_) rfl rfl ?_) ?_
        rotate_left 1
        · simp only [List.getElem?_toArray, List.getElem?_cons_zero, List.getElem?_cons_succ]; rfl
      focus
        refine GOps.r rfl rfl rfl rfl (grd_extract (v := ?_) rfl rfl ?_) ?_
        rotate_left 1
        · simp only [List.getElem?_toArray, List.getElem?_cons_zero, List.getElem?_cons_succ]; rfl
      refine GOps.r rfl rfl rfl rfl (grd_assign rfl rfl) ?_
      refine GOps.r rfl rfl rfl rfl (grd_assign rfl rfl) ?_
      refine GOps.nil ?_
      refine GWP.seq ?_
      refine GWP.seq ?_
      refine GWP.region ?_
      focus
        refine GOps.r rfl rfl rfl rfl (grd_loadNK (b := ?_) (cs := ?_) tab_is rfl rfl rfl rfl ?_ ?_ ?_) ?_
        rotate_left 2
        refine (HExt.eq (by assumption) _ ?_ ?_).trans ?_
        · simp; done
        · intro h; cases h; done
        refine Hp.at_put_eq ?_
        · simp; done
        · exact Nat.le_of_ble_eq_true rfl
        · simp [Value.cells]; rfl
      refine GOps.w rfl rfl rfl rfl (gop_call rfl Try.call15 rfl ?_ (hRt _)) ?_
      · intro _ h; cases h; done
      rintro _ Hxb13 ⟨rfl, xb13⟩
      have xb13l := HExt.len xb13; try simp at xb13l
      refine GOps.r rfl rfl rfl rfl (grd_not rfl rfl) ?_
      refine GOps.nil ?_
      refine GWP.cond_f rfl ?_ ?_
      · simp; done
      refine GWP.skip ?_
      refine GWP.seq ?_
      refine GWP.region ?_
      refine GOps.r rfl rfl rfl rfl (grd_move rfl rfl) ?_
      focus
        refine GOps.w rfl rfl rfl rfl (gop_call rfl Try.call17 rfl ?_ (g_vopen _ _ _ _ ?_ ?_ ?_)) ?_
        · intro _ h; cases h; done
        rotate_left 1
        focus
          refine BS.ext (by assumption) ?_
          · assumption
        · omega
      rintro _ Hxb19 ⟨⟨gb14, pb15, cb16, rfl, lb17, rb18⟩, xb19⟩
      have xb19l := HExt.len xb19; try simp at xb19l
      have rb18g := RG.hg rb18; unfold rdBlk at rb18g; have rb18q := Hp.at_lt rb18g
      focus
        refine GOps.w rfl rfl rfl rfl (gop_call rfl Try.call16 rfl ?_ (hR _ _ ?_ ?_ ?_)) ?_
        · simp [Ctx.may]; omega
        rotate_left 2
        · assumption
      rintro _ Hxb25 ⟨⟨pb20, nb21, cb22, rfl, bb23⟩, kb24, xb25⟩
      have xb25l := HExt.len xb25; try simp at xb25l
      refine GOps.r rfl rfl rfl rfl (grd_move rfl rfl) ?_
      focus
        refine GOps.r rfl rfl rfl rfl (grd_extract (v := ?_) rfl rfl ?_) ?_
        rotate_left 1
        · simp only [List.getElem?_toArray, List.getElem?_cons_zero, List.getElem?_cons_succ]; rfl
      focus
        refine GOps.r rfl rfl rfl rfl (grd_extract (v := ?_) rfl rfl ?_) ?_
        rotate_left 1
        · simp only [List.getElem?_toArray, List.getElem?_cons_zero, List.getElem?_cons_succ]; rfl
      focus
        refine GOps.w1 rfl rfl rfl rfl (gop_alloc' (id := ?_) ?_ tab_is rfl rfl ?_) ?_
        rotate_left 1
        · rfl
        · decide
      focus
        refine GOps.s rfl rfl rfl (gop_storeC (b := ?_) (cs := ?_) tab_is rfl rfl ?_ rfl rfl ?_ ?_ ?_ ?_ ?_ ?_) ?_
        rotate_left 2
        · rfl
        · rfl
        · exact Hp.at_push_eq
        · rfl
        · exact Nat.le_of_ble_eq_true rfl
        · exact .inr (by simp; omega)
        · simp [splice, Value.cells]; rfl
      refine GOps.r rfl rfl rfl rfl (grd_assign rfl rfl) ?_
      refine GOps.nil ?_
      refine GWP.seq ?_
      refine GWP.draw [.reads [0, 1, 2, 3, 5, 4], .write 6, .reads [7, 8, 9, 10, 11, 12, 13, 14, 15, 17], .write 16, .reads [18, 19, 20, 21, 22], .write 23, .reads [24, 25]] false [List.length Hxb25, jb2, List.length Hxb1, List.length H] (by kernel_rfl) (by kernel_rfl) (by kernel_rfl) (by kernel_rfl) ?_ ?_
      · simp; omega
      refine GPcs.reads (by simp only [List.filterMap_cons, List.filterMap_nil, List.getElem?_toArray, List.getElem?_cons_succ, List.getElem?_cons_zero]; rfl) ?_
      refine GQ.r rfl rfl rfl rfl (grd_move rfl rfl) ?_ ?_
      · refine .inr ?_; simp
      refine GQ.r rfl rfl rfl rfl (grd_eql rfl rfl rfl) ?_ ?_
      · refine .inr ?_; simp
      refine GQ.r rfl rfl rfl rfl (grd_move rfl rfl) ?_ ?_
      · refine .inr ?_; simp
      refine GQ.take rfl rfl ?_ ?_
      · simp; done
      refine GQ.r rfl rfl rfl rfl (grd_move rfl rfl) ?_ ?_
      · refine .inr ?_; simp
      refine GQ.take rfl rfl ?_ ?_
      · simp; done
      focus
        refine GQ.r rfl rfl rfl rfl (grd_loadNK (b := ?_) (cs := ?_) tab_is rfl rfl rfl rfl ?_ ?_ ?_) ?_ ?_
        rotate_left 2
        refine (Hp.at_put_ne ?_).trans ?_
        · omega
        refine (Hp.at_push_lt ?_).trans ?_
        · omega
        refine (HExt.eq (by assumption) _ ?_ ?_).trans ?_
        · omega
        · simp; omega
        refine (HExt.eq (by assumption) _ ?_ ?_).trans ?_
        · omega
        · intro h; cases h; done
        refine (HExt.eq (by assumption) _ ?_ ?_).trans ?_
        · omega
        · intro h; cases h; done
        refine (HExt.eq (by assumption) _ ?_ ?_).trans ?_
        · simp; done
        · intro h; cases h; done
        refine Hp.at_put_eq ?_
        · simp; done
        · exact Nat.le_of_ble_eq_true rfl
        · simp [Value.cells]; rfl
        · refine .inr ?_; simp
      refine GQ.take rfl rfl ?_ ?_
      · simp; done
      focus
        refine GQ.r rfl rfl rfl rfl (grd_str (b := ?_) (l := ?_) tab_is rfl rfl rfl rfl rfl rfl rfl rfl ?_ ?_ ?_) ?_ ?_
        rotate_left 2
        refine (Hp.at_put_ne ?_).trans ?_
        · omega
        refine (Hp.at_push_lt ?_).trans ?_
        · omega
        refine (HExt.eq (by assumption) _ ?_ ?_).trans ?_
        · omega
        · simp; omega
        refine (HExt.eq (by assumption) _ ?_ ?_).trans ?_
        · omega
        · intro h; cases h; done
        refine (HExt.eq (by assumption) _ ?_ ?_).trans ?_
        · omega
        · intro h; cases h; done
        · assumption
        · assumption
        · rfl
        · refine .inr ?_; simp
      refine GQ.nil ?_
      refine GPcs.writeD false rfl rfl ?_ rfl rfl (gopf_call rfl Try.call18 rfl ?_ (hRB2 _)) rfl ?_ ?_ ?_
      · simp; done
      · intro _ h; cases h; done
      · intro _ h; cases h; done
      focus
        refine List.forall_mem_cons.2 ⟨⟨⟨?_, ?_⟩, ?_⟩, ?_⟩
        rotate_left 1
        refine Hp.at_put_eq ?_
        · simp; done
        · intro h; cases h; done
        focus
          refine List.forall_mem_cons.2 ⟨⟨⟨?_, ?_⟩, ?_⟩, ?_⟩
          rotate_left 1
          refine (Hp.at_put_ne ?_).trans ?_
          · omega
          refine (Hp.at_push_lt ?_).trans ?_
          · omega
          refine (HExt.eq (by assumption) _ ?_ ?_).trans ?_
          · omega
          · simp; omega
          refine (HExt.eq (by assumption) _ ?_ ?_).trans ?_
          · omega
          · intro h; cases h; done
          refine (HExt.eq (by assumption) _ ?_ ?_).trans ?_
          · omega
          · intro h; cases h; done
          · assumption
          · intro h; cases h; done
          focus
            refine List.forall_mem_cons.2 ⟨⟨⟨?_, ?_⟩, ?_⟩, ?_⟩
            rotate_left 1
            refine (Hp.at_put_ne ?_).trans ?_
            · omega
            refine (Hp.at_push_lt ?_).trans ?_
            · omega
            refine (HExt.eq (by assumption) _ ?_ ?_).trans ?_
            · omega
            · simp; omega
            refine (HExt.eq (by assumption) _ ?_ ?_).trans ?_
            · omega
            · intro h; cases h; done
            refine (HExt.eq (by assumption) _ ?_ ?_).trans ?_
            · omega
            · intro h; cases h; done
            refine (HExt.eq (by assumption) _ ?_ ?_).trans ?_
            · simp; done
            · intro h; cases h; done
            refine Hp.at_put_eq ?_
            · simp; done
            · intro h; cases h; done
            focus
              refine List.forall_mem_cons.2 ⟨⟨⟨?_, ?_⟩, ?_⟩, ?_⟩
              rotate_left 1
              refine (Hp.at_put_ne ?_).trans ?_
              · omega
              refine (Hp.at_push_lt ?_).trans ?_
              · omega
              refine (HExt.eq (by assumption) _ ?_ ?_).trans ?_
              · omega
              · simp; omega
              refine (HExt.eq (by assumption) _ ?_ ?_).trans ?_
              · omega
              · intro h; cases h; done
              refine (HExt.eq (by assumption) _ ?_ ?_).trans ?_
              · omega
              · intro h; cases h; done
              refine (HExt.eq (by assumption) _ ?_ ?_).trans ?_
              · simp; omega
              · intro h; cases h; done
              refine (Hp.at_put_ne ?_).trans ?_
              · omega
              refine (Hp.at_push_lt ?_).trans ?_
              · omega
              refine (HExt.eq (by assumption) _ ?_ ?_).trans ?_
              · simp; done
              · intro h; cases h; done
              · exact Hp.at_push_eq
              · intro h; cases h; done
              · intro _ h; cases h; done
      rintro _ Hxb36 ⟨⟨jb26, ob27, cb28, tb29, wb30, csb31, rfl, hbb32, hsb33, hob34, bb35⟩, xb36⟩
      have xb36l := HExt.len xb36; try simp at xb36l
      have hbb32q := Hp.at_lt hbb32
      refine ⟨[List.length Hxb25, jb2, List.length Hxb1, List.length H, jb26], ?_, ?_, ?_⟩
      · simp; done
      · simp; omega
      refine GPcs.reads (by simp only [List.filterMap_cons, List.filterMap_nil, List.getElem?_toArray, List.getElem?_cons_succ, List.getElem?_cons_zero]; rfl) ?_
      refine GQ.take rfl rfl ?_ ?_
      · simp; done
      focus
        refine GQ.r rfl rfl rfl rfl (grd_str (b := ?_) (l := ?_) tab_is rfl rfl rfl rfl rfl rfl rfl rfl ?_ ?_ ?_) ?_ ?_
        rotate_left 2
        · assumption
        · assumption
        · rfl
        · refine .inr ?_; simp
      refine GQ.take rfl rfl ?_ ?_
      · simp; done
      refine GQ.r rfl rfl rfl rfl (grd_seql' rfl rfl rfl) ?_ ?_
      · refine .inr ?_; simp
      refine GQ.r rfl rfl rfl rfl (grd_pick_t rfl rfl ?_ rfl) ?_ ?_
      · exact decide_eq_true (by omega)
      · refine .inr ?_; simp
      refine GQ.r rfl rfl rfl rfl (grd_move rfl rfl) ?_ ?_
      · refine .inr ?_; simp
      refine GQ.take rfl rfl ?_ ?_
      · simp; done
      refine GQ.r rfl rfl rfl rfl (grd_move rfl rfl) ?_ ?_
      · refine .inr ?_; simp
      refine GQ.take rfl rfl ?_ ?_
      · simp; done
      refine GQ.r rfl rfl rfl rfl (grd_eql rfl rfl rfl) ?_ ?_
      · refine .inr ?_; simp
      refine GQ.r rfl rfl rfl rfl (grd_pick_t rfl rfl ?_ rfl) ?_ ?_
      · simp; done
      · refine .inr ?_; simp
      refine GQ.r rfl rfl rfl rfl (grd_move rfl rfl) ?_ ?_
      · refine .inr ?_; simp
      refine GQ.take rfl rfl ?_ ?_
      · simp; done
      focus
        refine GQ.r rfl rfl rfl rfl (grd_loadNK (b := ?_) (cs := ?_) tab_is rfl rfl rfl rfl ?_ ?_ ?_) ?_ ?_
        rotate_left 2
        refine (HExt.eq (by assumption) _ ?_ ?_).trans ?_
        · simp; done
        · intro h; cases h; done
        refine Hp.at_put_eq ?_
        · simp; done
        · exact Nat.le_of_ble_eq_true rfl
        · simp [Value.cells]; rfl
        · refine .inr ?_; simp
      refine GQ.take rfl rfl ?_ ?_
      · simp; done
      focus
        refine GQ.r rfl rfl rfl rfl (grd_loadNK (b := ?_) (cs := ?_) tab_is rfl rfl rfl rfl ?_ ?_ ?_) ?_ ?_
        rotate_left 2
        refine (HExt.eq (by assumption) _ ?_ ?_).trans ?_
        · simp; omega
        · intro h; cases h; done
        refine (Hp.at_put_ne ?_).trans ?_
        · omega
        refine (Hp.at_push_lt ?_).trans ?_
        · omega
        refine (HExt.eq (by assumption) _ ?_ ?_).trans ?_
        · omega
        · simp; omega
        refine (HExt.eq (by assumption) _ ?_ ?_).trans ?_
        · omega
        · intro h; cases h; done
        refine (HExt.eq (by assumption) _ ?_ ?_).trans ?_
        · omega
        · intro h; cases h; done
        refine (HExt.eq (by assumption) _ ?_ ?_).trans ?_
        · simp; done
        · intro h; cases h; done
        refine Hp.at_put_eq ?_
        · simp; done
        · exact Nat.le_of_ble_eq_true rfl
        · simp [Value.cells]; rfl
        · refine .inr ?_; simp
      refine GQ.nil ?_
      refine GPcs.writeD false rfl rfl ?_ rfl rfl (gopf_call rfl Try.call13 rfl ?_ (g_rplain _ r _ _ _ ?_)) rfl ?_ ?_ ?_
      · simp; done
      · intro _ h; cases h; done
      focus
        refine BS.ext (by assumption) ?_
        refine HExt.tr ?_ (by assumption) ?_
        refine HExt.put ?_ ?_
        refine HExt.push ?_
        · exact HExt.refl _ _
        · exact .inr (by omega)
        · intro _ h; cases h; done
      · intro _ h; cases h; done
      focus
        refine List.forall_mem_cons.2 ⟨⟨⟨?_, ?_⟩, ?_⟩, ?_⟩
        rotate_left 1
        refine (HExt.eq (by assumption) _ ?_ ?_).trans ?_
        · simp; done
        · intro h; cases h; done
        refine Hp.at_put_eq ?_
        · simp; done
        · intro h; cases h; done
        focus
          refine List.forall_mem_cons.2 ⟨⟨⟨?_, ?_⟩, ?_⟩, ?_⟩
          rotate_left 1
          refine (HExt.eq (by assumption) _ ?_ ?_).trans ?_
          · simp; omega
          · intro h; cases h; done
          refine (Hp.at_put_ne ?_).trans ?_
          · omega
          refine (Hp.at_push_lt ?_).trans ?_
          · omega
          refine (HExt.eq (by assumption) _ ?_ ?_).trans ?_
          · omega
          · simp; omega
          refine (HExt.eq (by assumption) _ ?_ ?_).trans ?_
          · omega
          · intro h; cases h; done
          refine (HExt.eq (by assumption) _ ?_ ?_).trans ?_
          · omega
          · intro h; cases h; done
          · assumption
          · intro h; cases h; done
          focus
            refine List.forall_mem_cons.2 ⟨⟨⟨?_, ?_⟩, ?_⟩, ?_⟩
            rotate_left 1
            refine (HExt.eq (by assumption) _ ?_ ?_).trans ?_
            · simp; omega
            · intro h; cases h; done
            refine (Hp.at_put_ne ?_).trans ?_
            · omega
            refine (Hp.at_push_lt ?_).trans ?_
            · omega
            refine (HExt.eq (by assumption) _ ?_ ?_).trans ?_
            · omega
            · simp; omega
            refine (HExt.eq (by assumption) _ ?_ ?_).trans ?_
            · omega
            · intro h; cases h; done
            refine (HExt.eq (by assumption) _ ?_ ?_).trans ?_
            · omega
            · intro h; cases h; done
            refine (HExt.eq (by assumption) _ ?_ ?_).trans ?_
            · simp; done
            · intro h; cases h; done
            refine Hp.at_put_eq ?_
            · simp; done
            · intro h; cases h; done
            focus
              refine List.forall_mem_cons.2 ⟨⟨⟨?_, ?_⟩, ?_⟩, ?_⟩
              rotate_left 1
              refine (HExt.eq (by assumption) _ ?_ ?_).trans ?_
              · simp; omega
              · intro h; cases h; done
              refine (Hp.at_put_ne ?_).trans ?_
              · omega
              refine (Hp.at_push_lt ?_).trans ?_
              · omega
              refine (HExt.eq (by assumption) _ ?_ ?_).trans ?_
              · omega
              · simp; omega
              refine (HExt.eq (by assumption) _ ?_ ?_).trans ?_
              · omega
              · intro h; cases h; done
              refine (HExt.eq (by assumption) _ ?_ ?_).trans ?_
              · omega
              · intro h; cases h; done
              refine (HExt.eq (by assumption) _ ?_ ?_).trans ?_
              · simp; omega
              · intro h; cases h; done
              refine (Hp.at_put_ne ?_).trans ?_
              · omega
              refine (Hp.at_push_lt ?_).trans ?_
              · omega
              refine (HExt.eq (by assumption) _ ?_ ?_).trans ?_
              · simp; done
              · intro h; cases h; done
              · exact Hp.at_push_eq
              · intro h; cases h; done
              focus
                refine List.forall_mem_cons.2 ⟨⟨⟨?_, ?_⟩, ?_⟩, ?_⟩
                rotate_left 1
                · assumption
                · intro h; cases h; done
                · intro _ h; cases h; done
      rintro _ Hxb37 ⟨rfl, xb37⟩
      have xb37l := HExt.len xb37; try simp at xb37l
      refine ⟨[List.length Hxb25, jb2, List.length Hxb1, List.length H, jb26], ?_, ?_, ?_⟩
      · simp; done
      · simp; omega
      refine GPcs.reads (by simp only [List.filterMap_cons, List.filterMap_nil, List.getElem?_toArray, List.getElem?_cons_succ, List.getElem?_cons_zero]; rfl) ?_
      refine GQ.take rfl rfl ?_ ?_
      · simp; done
      focus
        refine GQ.r rfl rfl rfl rfl (grd_aeqlK (b := ?_) tab_is rfl rfl rfl rfl rfl rfl ?_ ?_ ?_) ?_ ?_
        rotate_left 1
        · rfl
        · rfl
        · simp [lEq, cEq]; rfl
        · refine .inr ?_; simp
      refine GQ.r rfl rfl rfl rfl (grd_pick_t rfl rfl ?_ rfl) ?_ ?_
      · exact decide_eq_true (by omega)
      · refine .inr ?_; simp
      refine GQ.r rfl rfl rfl rfl (grd_move rfl rfl) ?_ ?_
      · refine .inr ?_; simp
      refine GQ.take rfl rfl ?_ ?_
      · simp; done
      focus
        refine GQ.r rfl rfl rfl rfl (grd_loadNK (b := ?_) (cs := ?_) tab_is rfl rfl rfl rfl ?_ ?_ ?_) ?_ ?_
        rotate_left 2
        refine (HExt.eq (by assumption) _ ?_ ?_).trans ?_
        · omega
        · intro h; cases h; done
        refine (HExt.eq (by assumption) _ ?_ ?_).trans ?_
        · simp; omega
        · intro h; cases h; done
        refine (Hp.at_put_ne ?_).trans ?_
        · omega
        refine (Hp.at_push_lt ?_).trans ?_
        · omega
        refine (HExt.eq (by assumption) _ ?_ ?_).trans ?_
        · omega
        · simp; omega
        refine (HExt.eq (by assumption) _ ?_ ?_).trans ?_
        · omega
        · intro h; cases h; done
        refine (HExt.eq (by assumption) _ ?_ ?_).trans ?_
        · omega
        · intro h; cases h; done
        refine (HExt.eq (by assumption) _ ?_ ?_).trans ?_
        · simp; omega
        · intro h; cases h; done
        refine (Hp.at_put_ne ?_).trans ?_
        · omega
        refine (Hp.at_push_lt ?_).trans ?_
        · omega
        refine (HExt.eq (by assumption) _ ?_ ?_).trans ?_
        · simp; done
        · intro h; cases h; done
        · exact Hp.at_push_eq
        · exact Nat.le_of_ble_eq_true rfl
        · simp [Value.cells]; rfl
        · refine .inr ?_; simp
      refine GQ.take rfl rfl ?_ ?_
      · simp; done
      focus
        refine GQ.r rfl rfl rfl rfl (grd_loadNK (b := ?_) (cs := ?_) tab_is rfl rfl rfl rfl ?_ ?_ ?_) ?_ ?_
        rotate_left 2
        refine (HExt.eq (by assumption) _ ?_ ?_).trans ?_
        · omega
        · intro h; cases h; done
        refine (HExt.eq (by assumption) _ ?_ ?_).trans ?_
        · simp; done
        · intro h; cases h; done
        refine Hp.at_put_eq ?_
        · simp; done
        · exact Nat.le_of_ble_eq_true rfl
        · simp [Value.cells]; rfl
        · refine .inr ?_; simp
      refine GQ.nil ?_
      refine GPcs.write true [List.length Hxb25, jb2, List.length Hxb1, List.length H, jb26] rfl rfl ?_ rfl rfl (gopf_call rfl Try.call19 rfl ?_ (hsm _ _ _ _ _ _ _ ?_ ?_)) rfl ?_ ?_ ?_ ?_
      · simp; done
      · intro _ h; cases h; done
      focus
        refine BS.ext (by assumption) ?_
        refine HExt.tr ?_ (by assumption) ?_
        refine HExt.tr ?_ (by assumption) ?_
        refine HExt.put ?_ ?_
        refine HExt.push ?_
        refine HExt.tr ?_ (by assumption) ?_
        refine HExt.tr ?_ (by assumption) ?_
        refine HExt.tr ?_ (by assumption) ?_
        refine HExt.tr ?_ (by assumption) ?_
        refine HExt.put ?_ ?_
        refine HExt.push ?_
        refine HExt.tr ?_ (by assumption) ?_
        refine HExt.push ?_
        · exact HExt.refl _ _
        · intro _ h; cases h; done
        · exact .inr (by omega)
        · intro _ h; cases h; done
        · intro _ h; cases h; done
        · intro _ h; cases h; done
        · simp; omega
        · exact .inr (by omega)
        · intro _ h; cases h; done
        · intro _ h; cases h; done
      focus
        refine BS.ext (by assumption) ?_
        refine HExt.tr ?_ (by assumption) ?_
        refine HExt.tr ?_ (by assumption) ?_
        refine HExt.put ?_ ?_
        refine HExt.push ?_
        · exact HExt.refl _ _
        · exact .inr (by omega)
        · intro _ h; cases h; done
        · intro _ h; cases h; done
      · intro _ h; cases h; done
      focus
        refine List.forall_mem_cons.2 ⟨⟨⟨?_, ?_⟩, ?_⟩, ?_⟩
        rotate_left 1
        refine (HExt.eq (by assumption) _ ?_ ?_).trans ?_
        · omega
        · intro h; cases h; done
        refine (HExt.eq (by assumption) _ ?_ ?_).trans ?_
        · simp; done
        · intro h; cases h; done
        refine Hp.at_put_eq ?_
        · simp; done
        · intro h; cases h; done
        focus
          refine List.forall_mem_cons.2 ⟨⟨⟨?_, ?_⟩, ?_⟩, ?_⟩
          rotate_left 1
          refine (HExt.eq (by assumption) _ ?_ ?_).trans ?_
          · omega
          · intro h; cases h; done
          refine (HExt.eq (by assumption) _ ?_ ?_).trans ?_
          · simp; omega
          · intro h; cases h; done
          refine (Hp.at_put_ne ?_).trans ?_
          · omega
          refine (Hp.at_push_lt ?_).trans ?_
          · omega
          refine (HExt.eq (by assumption) _ ?_ ?_).trans ?_
          · omega
          · simp; omega
          refine (HExt.eq (by assumption) _ ?_ ?_).trans ?_
          · omega
          · intro h; cases h; done
          refine (HExt.eq (by assumption) _ ?_ ?_).trans ?_
          · omega
          · intro h; cases h; done
          · assumption
          · intro h; cases h; done
          focus
            refine List.forall_mem_cons.2 ⟨⟨⟨?_, ?_⟩, ?_⟩, ?_⟩
            rotate_left 1
            refine (HExt.eq (by assumption) _ ?_ ?_).trans ?_
            · omega
            · intro h; cases h; done
            refine (HExt.eq (by assumption) _ ?_ ?_).trans ?_
            · simp; omega
            · intro h; cases h; done
            refine (Hp.at_put_ne ?_).trans ?_
            · omega
            refine (Hp.at_push_lt ?_).trans ?_
            · omega
            refine (HExt.eq (by assumption) _ ?_ ?_).trans ?_
            · omega
            · simp; omega
            refine (HExt.eq (by assumption) _ ?_ ?_).trans ?_
            · omega
            · intro h; cases h; done
            refine (HExt.eq (by assumption) _ ?_ ?_).trans ?_
            · omega
            · intro h; cases h; done
            refine (HExt.eq (by assumption) _ ?_ ?_).trans ?_
            · simp; done
            · intro h; cases h; done
            refine Hp.at_put_eq ?_
            · simp; done
            · intro h; cases h; done
            focus
              refine List.forall_mem_cons.2 ⟨⟨⟨?_, ?_⟩, ?_⟩, ?_⟩
              rotate_left 1
              refine (HExt.eq (by assumption) _ ?_ ?_).trans ?_
              · omega
              · intro h; cases h; done
              refine (HExt.eq (by assumption) _ ?_ ?_).trans ?_
              · simp; omega
              · intro h; cases h; done
              refine (Hp.at_put_ne ?_).trans ?_
              · omega
              refine (Hp.at_push_lt ?_).trans ?_
              · omega
              refine (HExt.eq (by assumption) _ ?_ ?_).trans ?_
              · omega
              · simp; omega
              refine (HExt.eq (by assumption) _ ?_ ?_).trans ?_
              · omega
              · intro h; cases h; done
              refine (HExt.eq (by assumption) _ ?_ ?_).trans ?_
              · omega
              · intro h; cases h; done
              refine (HExt.eq (by assumption) _ ?_ ?_).trans ?_
              · simp; omega
              · intro h; cases h; done
              refine (Hp.at_put_ne ?_).trans ?_
              · omega
              refine (Hp.at_push_lt ?_).trans ?_
              · omega
              refine (HExt.eq (by assumption) _ ?_ ?_).trans ?_
              · simp; done
              · intro h; cases h; done
              · exact Hp.at_push_eq
              · intro h; cases h; done
              focus
                refine List.forall_mem_cons.2 ⟨⟨⟨?_, ?_⟩, ?_⟩, ?_⟩
                rotate_left 1
                refine (HExt.eq (by assumption) _ ?_ ?_).trans ?_
                · omega
                · intro h; cases h; done
                · assumption
                · intro h; cases h; done
                · intro _ h; cases h; done
      · simp; done
      rintro _ Hxb38 ⟨rfl, xb38⟩
      have xb38l := HExt.len xb38; try simp at xb38l
      refine ⟨?_, ?_⟩
      · simp; omega
      refine GPcs.reads (by simp only [List.filterMap_cons, List.filterMap_nil, List.getElem?_toArray, List.getElem?_cons_succ, List.getElem?_cons_zero]; rfl) ?_
      refine GQ.r rfl rfl rfl rfl (grd_pick_t rfl rfl ?_ rfl) ?_ ?_
      · with_reducible rfl
      · exact .inl rfl
      refine GQ.r rfl rfl rfl rfl (grd_assign rfl rfl) ?_ ?_
      · exact .inl rfl
      refine GQ.nil ?_
      refine GPcs.nil ?_
      refine GWP.ret ?_
      refine ⟨_, .one rfl, ?_⟩
      · rfl
  · rw [decide_eq_false hrr] at hRt
    have hB2 := fun H p m cm hL hm => (hB H p m cm hL hm).mono (R' := fun v H' => v = .tuple #[.slice none 0 0, .int .i64 1] ∧ HExt [] H H') fun v H' h => ⟨h.1.2 hrr, h.2⟩
    clear hB
    refine GCalls.body tab_is Try.func4 rfl Try.results4 Try.ntmps4 (by simp) ?_ ?_
    · first | (intro _ h; cases h; done) | (simp; done) | (simp; omega) | (intro i hi; simp at hi; rcases hi with rfl | rfl <;> omega) | (intro i hi; simp at hi; rcases hi with rfl | rfl | rfl <;> omega)
    focus
      refine GWP.seq ?_
      refine GWP.region ?_
      focus
        refine GOps.w1 rfl rfl rfl rfl (gop_box' (id := ?_) ?_ rfl rfl rfl) ?_
        rotate_left 1
        · rfl
      refine GOps.r rfl rfl rfl rfl (grd_assign rfl rfl) ?_
      refine GOps.nil ?_
      refine GWP.seq ?_
      refine GWP.seq ?_
      refine GWP.region ?_
      refine GOps.w1 rfl rfl rfl rfl (gop_call0 (f := 12) rfl Try.call12 ?_ (g_lives12 _)) ?_
      · intro _ h; cases h; done
      refine GOps.r rfl rfl rfl rfl (grd_not rfl rfl) ?_
      refine GOps.r rfl rfl rfl rfl (grd_move rfl rfl) ?_
      refine GOps.take rfl rfl ?_ ?_
      · simp; done
      refine GOps.r rfl rfl rfl rfl (grd_fieldAddr tab_is rfl rfl rfl rfl rfl) ?_
      refine GOps.take rfl rfl ?_ ?_
      · simp; done
      focus
        refine GOps.r rfl rfl rfl rfl (grd_load1 (b := ?_) (v := ?_) tab_is rfl rfl rfl rfl ?_ ?_) ?_
        rotate_left 2
        · exact Hp.at_push_eq
        · rfl
      refine GOps.take rfl rfl ?_ ?_
      · simp; done
      refine GOps.r rfl rfl rfl rfl (grd_len tab_is rfl rfl rfl rfl rfl) ?_
      refine GOps.take rfl rfl ?_ ?_
      · simp; done
      refine GOps.r rfl rfl rfl rfl (grd_gtr rfl rfl rfl) ?_
      refine GOps.r rfl rfl rfl rfl (grd_pick_f rfl rfl ?_ rfl) ?_
      · simp; done
      refine GOps.nil ?_
      refine GWP.cond_f rfl ?_ ?_
      · exact decide_eq_false (by omega)
      refine GWP.skip ?_
      refine GWP.seq ?_
      refine GWP.region ?_
      focus
        refine GOps.r rfl rfl rfl rfl (grd_loadNK (b := ?_) (cs := ?_) tab_is rfl rfl rfl rfl ?_ ?_ ?_) ?_
        rotate_left 2
        · exact Hp.at_push_eq
        · exact Nat.le_of_ble_eq_true rfl
        · simp [Value.cells]; rfl
      refine GOps.w rfl rfl rfl rfl (gop_call rfl Try.call13 rfl ?_ (g_rplain _ r _ _ _ ?_)) ?_
      · intro _ h; cases h; done
      focus
        refine BS.ext (by assumption) ?_
        refine HExt.push ?_
        · exact HExt.refl _ _
      rintro _ Hxd1 ⟨rfl, xd1⟩
      have xd1l := HExt.len xd1; try simp at xd1l
      focus
        refine GOps.w1 rfl rfl rfl rfl (gop_alloc' (id := ?_) ?_ tab_is rfl rfl ?_) ?_
        rotate_left 1
        · rfl
        · decide
      focus
        refine GOps.s rfl rfl rfl (gop_storeC (b := ?_) (cs := ?_) tab_is rfl rfl ?_ rfl rfl ?_ ?_ ?_ ?_ ?_ ?_) ?_
        rotate_left 2
        · rfl
        · rfl
        · exact Hp.at_push_eq
        · rfl
        · exact Nat.le_of_ble_eq_true rfl
        · exact .inr (by simp; omega)
        · simp [splice, Value.cells]; rfl
      refine GOps.nil ?_
      refine GWP.seq ?_
      refine GWP.region ?_
      focus
        refine GOps.r rfl rfl rfl rfl (grd_loadNK (b := ?_) (cs := ?_) tab_is rfl rfl rfl rfl ?_ ?_ ?_) ?_
        rotate_left 2
        refine (Hp.at_put_ne ?_).trans ?_
        · omega
        refine (Hp.at_push_lt ?_).trans ?_
        · omega
        refine (HExt.eq (by assumption) _ ?_ ?_).trans ?_
        · simp; done
        · intro h; cases h; done
        · exact Hp.at_push_eq
        · exact Nat.le_of_ble_eq_true rfl
        · simp [Value.cells]; rfl
      refine GOps.w rfl rfl rfl rfl (gop_call rfl Try.call14 rfl ?_ (hB2 _ _ _ _ ?_ ?_)) ?_
      · intro _ h; cases h; done
      focus
        refine BS.ext (by assumption) ?_
        refine HExt.put ?_ ?_
        refine HExt.push ?_
        refine HExt.tr ?_ (by assumption) ?_
        refine HExt.push ?_
        · exact HExt.refl _ _
        · intro _ h; cases h; done
        · exact .inr (by omega)
      · omega
      rintro _ Hxd2 ⟨rfl, xd2⟩
      have xd2l := HExt.len xd2; try simp at xd2l
      refine GOps.r rfl rfl rfl rfl (grd_move rfl rfl) ?_
      focus
        refine GOps.r rfl rfl rfl rfl (grd_extract (v := ?_) rfl rfl ?_) ?_
        rotate_left 1
        · simp only [List.getElem?_toArray, List.getElem?_cons_zero, List.getElem?_cons_succ]; rfl
      focus
        refine GOps.r rfl rfl rfl rfl (grd_extract (v := ?_) rfl rfl ?_) ?_
        rotate_left 1
        · simp only [List.getElem?_toArray, List.getElem?_cons_zero, List.getElem?_cons_succ]; rfl
      refine GOps.r rfl rfl rfl rfl (grd_assign rfl rfl) ?_
      refine GOps.r rfl rfl rfl rfl (grd_assign rfl rfl) ?_
      refine GOps.nil ?_
      refine GWP.seq ?_
      refine GWP.seq ?_
      refine GWP.region ?_
      focus
        refine GOps.r rfl rfl rfl rfl (grd_loadNK (b := ?_) (cs := ?_) tab_is rfl rfl rfl rfl ?_ ?_ ?_) ?_
        rotate_left 2
        refine (HExt.eq (by assumption) _ ?_ ?_).trans ?_
        · simp; done
        · intro h; cases h; done
        refine Hp.at_put_eq ?_
        · simp; done
        · exact Nat.le_of_ble_eq_true rfl
        · simp [Value.cells]; rfl
      refine GOps.w rfl rfl rfl rfl (gop_call rfl Try.call15 rfl ?_ (hRt _)) ?_
      · intro _ h; cases h; done
      rintro _ Hxd3 ⟨rfl, xd3⟩
      have xd3l := HExt.len xd3; try simp at xd3l
      refine GOps.r rfl rfl rfl rfl (grd_not rfl rfl) ?_
      refine GOps.nil ?_
      refine GWP.cond_t rfl ?_ ?_
      · simp; done
      refine GWP.seq ?_
      refine GWP.region ?_
      refine GOps.r rfl rfl rfl rfl (grd_move rfl rfl) ?_
      refine GOps.r rfl rfl rfl rfl (grd_eql rfl rfl rfl) ?_
      refine GOps.r rfl rfl rfl rfl (grd_move rfl rfl) ?_
      refine GOps.take rfl rfl ?_ ?_
      · simp; done
      refine GOps.r rfl rfl rfl rfl (grd_move rfl rfl) ?_
      refine GOps.take rfl rfl ?_ ?_
      · simp; done
      refine GOps.r rfl rfl rfl rfl (grd_len tab_is rfl rfl rfl rfl rfl) ?_
      refine GOps.take rfl rfl ?_ ?_
      · simp; done
      refine GOps.r rfl rfl rfl rfl (grd_eql rfl rfl rfl) ?_
      refine GOps.r rfl rfl rfl rfl (grd_pick_t rfl rfl ?_ rfl) ?_
      · exact decide_eq_true (by omega)
      refine GOps.r rfl rfl rfl rfl (grd_assign rfl rfl) ?_
      refine GOps.nil ?_
      refine GWP.ret ?_
      refine ⟨_, .one rfl, ?_⟩
      · rfl
theorem wf_byte {x : Int} (h : (Lit.int .u8 x).wf = true) : ∃ k : UInt8, x = (k.toNat : Int) := by
  have h2 : 0 ≤ x ∧ x ≤ 255 := by
    unfold Lit.wf at h
    have h3 : IntKind.u8.min ≤ x ∧ x ≤ IntKind.u8.max := by simpa using h
    exact h3
  refine ⟨UInt8.ofNat x.toNat, ?_⟩
  simp
  omega
theorem wf_i64 {x : Int} (h : (Lit.int .i64 x).wf = true) : -9223372036854775808 ≤ x ∧ x ≤ 9223372036854775807 := by
  unfold Lit.wf at h
  have h3 : IntKind.i64.min ≤ x ∧ x ≤ IntKind.i64.max := by simpa using h
  exact h3
theorem wf_u64 {x : Int} (h : (Lit.int .u64 x).wf = true) : 0 ≤ x ∧ x < 18446744073709551616 := by
  unfold Lit.wf at h
  have h3 : IntKind.u64.min ≤ x ∧ x ≤ IntKind.u64.max := by simpa using h
  have h4 : (0 : Int) ≤ x ∧ x ≤ 18446744073709551615 := h3
  omega
theorem recordBytes_walk (r : RecS) (A1 : Option Addr) (n1 c1 : Nat) (l1 : List UInt8) (e1 : r.blocks = l1.take n1) (w0 : (Lit.int .u8 r.kind).wf = true) (w3 : (Lit.int .i64 r.fr).wf = true) (w4 : (Lit.int .i64 r.til).wf = true) (w7 : (Lit.int .u64 r.len).wf = true) (w8 : (Lit.int .u64 r.sum).wf = true) (hn1 : n1 ≤ c1) (hm1 : c1 ≤ maxLen) (hA1 : A1 = none → n1 = 0 ∧ c1 = 0) (hl1 : l1.length = c1)
    (W : World) (hr1 : Rd W W.heap.size A1 (vb l1)) (h0 : ∃ (g : Nat) (rs : Array Value) (t : TypeId) (fz : Nat × Nat), W.heap[g]? = some (Obj.cells rs t fz)) :
    Calls Try.prog 4 #[.agg #[.int .u8 r.kind, .int .i64 r.id, .int .i64 r.base, .int .i64 r.fr, .int .i64 r.til, .slice A1 n1 c1, .int .i64 r.count, .int .u64 r.len, .int .u64 r.sum]] W fun e w' => e = .returned (.bool true) ∧ Below W.heap.size W w' := by
  obtain ⟨k, hk⟩ := wf_byte w0
  obtain ⟨μ1, H1, p1, s1, ro1, x1, k1, b1, v1⟩ := (SimH.nothing W).bytes Ro.nil h0 hn1 hm1 hA1 hr1 hl1
  rw [← e1] at b1
  refine ((g_recordBytes H1 k r p1 n1 c1 hk b1 (wf_i64 w3) (wf_i64 w4) (wf_u64 w7) (wf_u64 w8)).enter s1 (.cons (.agg (.cons (.int _ _) (.cons (.int _ _) (.cons (.int _ _) (.cons (.int _ _) (.cons (.int _ _) (.cons v1 (.cons (.int _ _) (.cons (.int _ _) (.cons (.int _ _) .nil)))))))))) .nil) (R := fun u => u = .bool true) (fun v hv => by rw [hv]; rfl)).mono ?_
  rintro e w' ⟨v, rfl, rfl, q⟩
  exact ⟨rfl, q⟩
end Go.Proofs.Ytjlimdiimdihfaa
