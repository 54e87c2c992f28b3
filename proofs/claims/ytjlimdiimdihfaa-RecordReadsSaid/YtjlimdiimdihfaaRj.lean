/- Of any bytes the record: the law. -/
import Derived.Test.YtjlimdiimdihfaaZz4
namespace Go.Proofs.Ytjlimdiimdihfaa
open Go.RowKit Go.ChangeShapes Go.WideShapes Go.ChangeAt

theorem bits_u8 (op : BinOp) (a b : Int) : ∃ u : UInt8, bits op .u8 a b = (u.toNat : Int) := by
  have h := wf_bits op .u8 a b
  have h2 : 0 ≤ bits op .u8 a b ∧ bits op .u8 a b ≤ 255 := by
    unfold Lit.wf at h
    have h3 : IntKind.u8.min ≤ bits op .u8 a b ∧ bits op .u8 a b ≤ IntKind.u8.max := by simpa using h
    exact h3
  refine ⟨UInt8.ofNat (bits op .u8 a b).toNat, ?_⟩
  simp
  omega
theorem xor_step {H : Hp} {j k : Nat} {t : TypeId} {M : List UInt8} {op : BinOp} {x y : Int} (hlt : j < H.length) : ∃ M' : List UInt8, M'.length = M.length ∧ (H.put j ⟨t, 1, (vb M).set k (.int .u8 (bits op .u8 x y)), true⟩).at j = some ⟨t, 1, vb M', true⟩ := by
  obtain ⟨u, hu⟩ := bits_u8 op x y
  refine ⟨M.set k u, by simp, ?_⟩
  rw [hu, Hp.at_put_eq hlt]
  simp [vb, List.map_set]
theorem bsk_unkill {H H1 : Hp} {j : Nat} {b : Blk} (h : BSk (H.kill j) H1) (hb : H.at j = some b) (hj : H1.at j = none) (hl : H.length ≤ H1.length) : BSk H (H1.put j b) := fun v L q => by
  cases q with
  | none => exact .none
  | some hb2 hs hl2 ho hu =>
    rename_i i off n c t rw cs
    by_cases e : j = i
    · subst e
      rw [hb] at hb2
      injection hb2 with hb2
      subst hb2
      exact .some (Hp.at_put_eq (by have := Hp.at_lt hb; omega)) hs hl2 ho hu
    · exact bs_off (h _ _ (.some ((Hp.at_kill_ne e).trans hb2) hs hl2 ho hu)) hj _
theorem bs_far {H : Hp} {j : Nat} {b : Blk} {p : Option Addr} {n c : Nat} {L : List UInt8} (h : BS H (.slice p n c) L) (hp : ∀ a, p = some a → a.block ≠ j) : BS (H.put j b) (.slice p n c) L := by
  cases h with
  | none => exact .none
  | some hb hs hl ho hu => exact .some ((Hp.at_put_ne (Ne.symm (hp _ rfl))).trans hb) hs hl ho hu
theorem bs_place {H : Hp} {j : Nat} {p : Option Addr} {n c : Nat} {L : List UInt8} (h : BS H (.slice p n c) L) (hj : H.at j = none) : ∀ a, p = some a → a.block ≠ j := by
  cases h with
  | none => intro a h; cases h
  | some hb _ _ _ _ =>
    intro a e
    injection e with e
    subst e
    rintro rfl
    rw [hj] at hb
    cases hb
/-- What a read comes to, a block of its caller's far from it. -/
def rdrF (H : Hp) (g j : Nat) (s : RdS) (v : Value) (H' : Hp) : Prop := ((∀ e, rdrO s = .inl e → v = .tuple #[recV 0 0 0 0 0 (.slice none 0 0) 0 0 0, .int .i64 (e : Int)]) ∧ ∀ r, rdrO s = .inr r → ∃ p' n' c', v = .tuple #[r.val (.slice p' n' c'), .int .i64 0] ∧ BS H' (.slice p' n' c') r.blocks ∧ ∀ a, p' = some a → a.block ≠ j) ∧ BSk H H' ∧ HExt [g] H H'
set_option maxHeartbeats 4000000 in
set_option maxRecDepth 100000 in
set_option linter.unusedSimpArgs false in
theorem g_rdreadF (H : Hp) (g : Nat) (p : Option Addr) (c : Nat) (s : RdS) (h : RG 81 H g p c s) (j : Nat) (b : Blk) (hb : H.at j = some b) (hne : j ≠ g) (lo : Nat) (hp0 : ∀ a, p = some a → lo ≤ a.block) (hlo : j < lo) : GCalls Try.prog 16 [.pointer (some ⟨g, 0, none⟩)] [g] H (rdrF H g j s) := by
  have hp : ∀ a, p = some a → a.block ≠ j := fun a e => by have := hp0 a e; omega
  refine (GCalls.hide hb (fun i hi => ?_) (g_rdread (H.kill j) g p c s (rg_kill h hne hp)) (fun v H' h => h.2.2.2)).mono ?_
  · rw [List.mem_singleton.1 hi]
    exact ⟨Ne.symm hne, _, h.hg, .inr rfl⟩
  · rintro v H' ⟨H1, ⟨⟨h1, h2⟩, _, h4, h5⟩, h6, rfl⟩
    have hl := h5.len
    rw [Hp.len_kill] at hl
    refine ⟨⟨h1, fun r hr => ?_⟩, bsk_unkill h4 hb h6 hl, h5.unkill hb⟩
    obtain ⟨p', n', c', e, q⟩ := h2 r hr
    exact ⟨p', n', c', e, bs_off q h6 _, bs_place q h6⟩
set_option maxHeartbeats 4000000 in
set_option maxRecDepth 100000 in
set_option linter.unusedSimpArgs false in
theorem g_recordReads (H : Hp) (p : Option Addr) (n c : Nat) (L : List UInt8) (hb : BS H (.slice p n c) L) : GCalls Try.prog 5 [.slice p n c] [] H fun v _ => v = .bool true := by
  by_cases hn : 1000 < n
  ·
    refine GCalls.body tab_is Try.func5 rfl Try.results5 Try.ntmps5 (by simp) ?_ ?_
    · first | (intro _ h; cases h; done) | (simp; done) | (simp; omega) | (intro i hi; simp at hi; rcases hi with rfl | rfl <;> omega) | (intro i hi; simp at hi; rcases hi with rfl | rfl | rfl <;> omega)
    focus
      refine GWP.seq ?_
      refine GWP.region ?_
      refine GOps.r rfl rfl rfl rfl (grd_assign rfl rfl) ?_
      refine GOps.nil ?_
      refine GWP.seq ?_
      refine GWP.seq ?_
      refine GWP.region ?_
      refine GOps.w1 rfl rfl rfl rfl (gop_call0 (f := 12) rfl Try.call12 ?_ (g_lives12 _)) ?_
      · intro _ h; cases h; done
      refine GOps.r rfl rfl rfl rfl (grd_not rfl rfl) ?_
      refine GOps.r rfl rfl rfl rfl (grd_move rfl rfl) ?_
      refine GOps.take rfl rfl ?_ ?_
      · simp; done
      refine GOps.r rfl rfl rfl rfl (grd_move rfl rfl) ?_
      refine GOps.take rfl rfl ?_ ?_
      · simp; done
      refine GOps.r rfl rfl rfl rfl (grd_len tab_is rfl rfl rfl rfl rfl) ?_
      refine GOps.take rfl rfl ?_ ?_
      · simp; done
      refine GOps.r rfl rfl rfl rfl (grd_gtr rfl rfl rfl) ?_
      refine GOps.r rfl rfl rfl rfl (grd_pick_f rfl rfl ?_ rfl) ?_
      · simp; done
      refine GOps.nil ?_
      refine GWP.cond_t rfl ?_ ?_
      · exact decide_eq_true (by omega)
      refine GWP.seq ?_
      refine GWP.region ?_
      refine GOps.w1 rfl rfl rfl rfl (gop_call0 (f := 12) rfl Try.call12 ?_ (g_lives12 _)) ?_
      · intro _ h; cases h; done
      refine GOps.r rfl rfl rfl rfl (grd_assign rfl rfl) ?_
      refine GOps.nil ?_
      refine GWP.ret ?_
      refine ⟨_, .one rfl, ?_⟩
      · rfl
  have hl := hb.len
  subst hl
  have hR := fun H g p c h j b hb hne lo hp hlo => g_rdreadF H g p c ⟨L, 0⟩ h j b hb hne lo hp hlo
  have hQ := fun H g p c h => g_rrread H g p c ⟨L, 0⟩ h
  unfold rdrF at hR
  cases hrd : rdrO ⟨L, 0⟩ with
  | inl e =>
    have hR2 := fun H g p c h j b hb hne lo hp hlo => (hR H g p c h j b hb hne lo hp hlo).mono (R' := fun v H' => v = .tuple #[recV 0 0 0 0 0 (.slice none 0 0) 0 0 0, .int .i64 (e : Int)] ∧ BSk H H' ∧ HExt [g] H H') fun v H' q => ⟨q.1.1 e hrd, q.2⟩
    rw [hrd] at hQ
    simp only at hQ
    clear hR
    simp only [recV] at hR2
    simp only [recT] at hQ
    rcases Nat.eq_zero_or_pos L.length with h0 | h0
    · obtain rfl : L = [] := List.eq_nil_of_length_eq_zero h0
      refine GCalls.body tab_is Try.func5 rfl Try.results5 Try.ntmps5 (by simp) ?_ ?_
      · first | (intro _ h; cases h; done) | (simp; done) | (simp; omega) | (intro i hi; simp at hi; rcases hi with rfl | rfl <;> omega) | (intro i hi; simp at hi; rcases hi with rfl | rfl | rfl <;> omega)
      focus
        refine GWP.seq ?_
        refine GWP.region ?_
        refine GOps.r rfl rfl rfl rfl (grd_assign rfl rfl) ?_
        refine GOps.nil ?_
        refine GWP.seq ?_
        refine GWP.seq ?_
        refine GWP.region ?_
        refine GOps.w1 rfl rfl rfl rfl (gop_call0 (f := 12) rfl Try.call12 ?_ (g_lives12 _)) ?_
        · intro _ h; cases h; done
        refine GOps.r rfl rfl rfl rfl (grd_not rfl rfl) ?_
        refine GOps.r rfl rfl rfl rfl (grd_move rfl rfl) ?_
        refine GOps.take rfl rfl ?_ ?_
        · simp; done
        refine GOps.r rfl rfl rfl rfl (grd_move rfl rfl) ?_
        refine GOps.take rfl rfl ?_ ?_
        · simp; done
        refine GOps.r rfl rfl rfl rfl (grd_len tab_is rfl rfl rfl rfl rfl) ?_
        refine GOps.take rfl rfl ?_ ?_
        · simp; done
        refine GOps.r rfl rfl rfl rfl (grd_gtr rfl rfl rfl) ?_
        refine GOps.r rfl rfl rfl rfl (grd_pick_f rfl rfl ?_ rfl) ?_
        · exact decide_eq_false (by assumption)
        refine GOps.nil ?_
        refine GWP.cond_f rfl ?_ ?_
        · exact decide_eq_false (by omega)
        refine GWP.skip ?_
        refine GWP.seq ?_
        refine GWP.region ?_
        focus
          refine GOps.w1 rfl rfl rfl rfl (gop_lit (id := ?_) (cs := ?_) ?_ tab_is rfl rfl rfl ?_ ?_ rfl ?_ ?_) ?_
          rotate_left 2
          · rfl
          · decide
          · decide
          · simp [gfill, gsets, Value.cells]; rfl
          · rfl
        refine GOps.r rfl rfl rfl rfl (grd_move rfl rfl) ?_
        focus
          refine GOps.w1 rfl rfl rfl rfl (gop_zeroB (L := ?_) (M := ?_) tab_is rfl rfl rfl rfl ?_ ?_ (gsrc_bs rfl rfl rfl ?_) ?_ ?_ ?_) ?_
          rotate_left 2
          refine bs_emptyE (b := ?_) ?_ ?_ ?_ ?_ ?_
          rotate_left 1
          · exact Hp.at_push_eq
          · rfl
          · decide
          · rfl
          · rfl
          · omega
          focus
            refine BS.ext (by assumption) ?_
            refine HExt.push ?_
            · exact HExt.refl _ _
          · exact BS.len (by assumption)
          · decide
          · decide
        refine GOps.r rfl rfl rfl rfl (grd_assign rfl rfl) ?_
        refine GOps.nil ?_
        refine GWP.seq ?_
        refine GWP.region ?_
        refine GOps.r rfl rfl rfl rfl (grd_move rfl rfl) ?_
        focus
          refine GOps.w rfl rfl rfl rfl (gop_call rfl Try.call17 rfl ?_ (g_vopenF _ _ _ _ ?_ ?_ ?_)) ?_
          · intro _ h; cases h; done
          rotate_left 1
          refine bs_emptyE (b := ?_) ?_ ?_ ?_ ?_ ?_
          rotate_left 1
          · exact Hp.at_push_eq
          · rfl
          · decide
          · rfl
          · rfl
          · omega
        rintro _ Hxb7 ⟨⟨gb1, pb2, cb3, rfl, lb4, rb5, fb6⟩, xb7⟩
        simp at lb4
        have xb7l := HExt.len xb7; try simp at xb7l
        have rb5g := RG.hg rb5; unfold rdBlk at rb5g; have rb5q := Hp.at_lt rb5g
        focus
          refine GOps.w rfl rfl rfl rfl (gop_call rfl Try.call16 rfl ?_ (hR2 _ _ ?_ ?_ ?_ H.length ?_ ?_ ?_ ?_ ?_ ?_)) ?_
          · simp [Ctx.may]; omega
          rotate_left 2
          · assumption
          rotate_left 1
          refine (HExt.eq (by assumption) _ ?_ ?_).trans ?_
          · simp; done
          · intro h; cases h; done
          · exact Hp.at_push_eq
          · omega
          rotate_left 1
          · assumption
          · simp; done
        rintro _ Hxb9 ⟨rfl, kb8, xb9⟩
        have xb9l := HExt.len xb9; try simp at xb9l
        refine GOps.r rfl rfl rfl rfl (grd_move rfl rfl) ?_
        focus
          refine GOps.r rfl rfl rfl rfl (grd_extract (v := ?_) rfl rfl ?_) ?_
          rotate_left 1
          · simp only [List.getElem?_toArray, List.getElem?_cons_zero, List.getElem?_cons_succ]; rfl
        focus
          refine GOps.r rfl rfl rfl rfl (grd_extract (v := ?_) rfl rfl ?_) ?_
          rotate_left 1
          · simp only [List.getElem?_toArray, List.getElem?_cons_zero, List.getElem?_cons_succ]; rfl
        focus
          refine GOps.w1 rfl rfl rfl rfl (gop_alloc' (id := ?_) ?_ tab_is rfl rfl ?_) ?_
          rotate_left 1
          · rfl
          · decide
        focus
          refine GOps.s rfl rfl rfl (gop_storeC (b := ?_) (cs := ?_) tab_is rfl rfl ?_ rfl rfl ?_ ?_ ?_ ?_ ?_ ?_) ?_
          rotate_left 2
          · rfl
          · rfl
          · exact Hp.at_push_eq
          · rfl
          · decide
          · exact .inr (by simp; omega)
          · simp [splice, Value.cells]; rfl
        refine GOps.r rfl rfl rfl rfl (grd_assign rfl rfl) ?_
        refine GOps.nil ?_
        refine GWP.seq ?_
        refine GWP.region ?_
        refine GOps.r rfl rfl rfl rfl (grd_move rfl rfl) ?_
        focus
          refine GOps.r rfl rfl rfl rfl (grd_build (cs := ?_) tab_is rfl rfl rfl ?_ rfl ?_) ?_
          rotate_left 1
          · decide
          · simp [gfill, gsets, Value.cells]; rfl
        focus
          refine GOps.w1 rfl rfl rfl rfl (gop_box' (id := ?_) ?_ rfl rfl rfl) ?_
          rotate_left 1
          · simp; rfl
        focus
          refine GOps.w rfl rfl rfl rfl (gop_call rfl Try.call20 rfl ?_ (hQ _ _ ?_ ?_ ?_)) ?_
          · simp [Ctx.may]; omega
          rotate_left 2
          refine rg_mk (b := ?_) ?_ ?_ ?_ ?_
          rotate_left 1
          refine Hp.at_push_id ?_
          · simp; done
          · rfl
          focus
            refine BS.ext (by assumption) ?_
            refine HExt.push ?_
            refine HExt.put ?_ ?_
            refine HExt.push ?_
            refine HExt.tr ?_ (by assumption) ?_
            refine HExt.tr ?_ (by assumption) ?_
            refine HExt.push ?_
            · exact HExt.refl _ _
            · intro _ h; cases h; done
            · simp; omega
            · exact .inr (by omega)
          · simp only; omega
        rintro _ Hxb11 ⟨rfl, _, kb10, xb11⟩
        have xb11l := HExt.len xb11; try simp at xb11l
        refine GOps.r rfl rfl rfl rfl (grd_move rfl rfl) ?_
        focus
          refine GOps.r rfl rfl rfl rfl (grd_extract (v := ?_) rfl rfl ?_) ?_
          rotate_left 1
          · simp only [List.getElem?_toArray, List.getElem?_cons_zero, List.getElem?_cons_succ]; rfl
        focus
          refine GOps.r rfl rfl rfl rfl (grd_extract (v := ?_) rfl rfl ?_) ?_
          rotate_left 1
          · simp only [List.getElem?_toArray, List.getElem?_cons_zero, List.getElem?_cons_succ]; rfl
        focus
          refine GOps.w1 rfl rfl rfl rfl (gop_alloc' (id := ?_) ?_ tab_is rfl rfl ?_) ?_
          rotate_left 1
          · rfl
          · decide
        focus
          refine GOps.s rfl rfl rfl (gop_storeC (b := ?_) (cs := ?_) tab_is rfl rfl ?_ rfl rfl ?_ ?_ ?_ ?_ ?_ ?_) ?_
          rotate_left 2
          · rfl
          · rfl
          · exact Hp.at_push_eq
          · rfl
          · decide
          · exact .inr (by simp; omega)
          · simp [splice, Value.cells]; rfl
        refine GOps.r rfl rfl rfl rfl (grd_assign rfl rfl) ?_
        refine GOps.nil ?_
        refine GWP.seq ?_
        refine GWP.seq ?_
        refine GWP.region ?_
        refine GOps.r rfl rfl rfl rfl (grd_move rfl rfl) ?_
        refine GOps.r rfl rfl rfl rfl (grd_len tab_is rfl rfl rfl rfl rfl) ?_
        refine GOps.r rfl rfl rfl rfl (grd_move rfl rfl) ?_
        refine GOps.nil ?_
        refine GWP.block ?_
        refine GWP.loopN 2 ?_
        refine GRounds.step ?_
        refine GWP.seq ?_
        refine GWP.region ?_
        refine GOps.r rfl rfl rfl rfl (grd_lss rfl rfl rfl) ?_
        refine GOps.nil ?_
        refine GWP.seq ?_
        refine GWP.cond_f rfl ?_ ?_
        · exact decide_eq_false (by omega)
        refine GWP.exit ?_
        refine GWP.seq ?_
        refine GWP.draw [.reads [0, 1, 2, 3, 4, 6], .write 5, .reads [7, 8, 9]] false [List.length Hxb11, List.length Hxb9] (by kernel_rfl) (by kernel_rfl) (by kernel_rfl) (by kernel_rfl) ?_ ?_
        · simp; omega
        refine GPcs.reads (by simp only [List.filterMap_cons, List.filterMap_nil, List.getElem?_toArray, List.getElem?_cons_succ, List.getElem?_cons_zero]; rfl) ?_
        refine GQ.r rfl rfl rfl rfl (grd_move rfl rfl) ?_ ?_
        · refine .inr ?_; simp
        refine GQ.r rfl rfl rfl rfl (grd_move rfl rfl) ?_ ?_
        · refine .inr ?_; simp
        refine GQ.r rfl rfl rfl rfl (grd_eql rfl rfl rfl) ?_ ?_
        · refine .inr ?_; simp
        refine GQ.r rfl rfl rfl rfl (grd_move rfl rfl) ?_ ?_
        · refine .inr ?_; simp
        refine GQ.take rfl rfl ?_ ?_
        · simp; done
        focus
          refine GQ.r rfl rfl rfl rfl (grd_loadNK (b := ?_) (cs := ?_) tab_is rfl rfl rfl rfl ?_ ?_ ?_) ?_ ?_
          rotate_left 2
          refine (Hp.at_put_ne ?_).trans ?_
          · omega
          refine (Hp.at_push_lt ?_).trans ?_
          · omega
          refine (HExt.eq (by assumption) _ ?_ ?_).trans ?_
          · simp; omega
          · simp; done
          refine (Hp.at_push_lt ?_).trans ?_
          · simp; done
          refine Hp.at_put_eq ?_
          · simp; done
          · decide
          · simp [Value.cells]; rfl
          · refine .inr ?_; simp
        refine GQ.take rfl rfl ?_ ?_
        · simp; done
        focus
          refine GQ.r rfl rfl rfl rfl (grd_loadNK (b := ?_) (cs := ?_) tab_is rfl rfl rfl rfl ?_ ?_ ?_) ?_ ?_
          rotate_left 2
          refine Hp.at_put_eq ?_
          · simp; done
          · decide
          · simp [Value.cells]; rfl
          · refine .inr ?_; simp
        refine GQ.nil ?_
        refine GPcs.write true [List.length Hxb11, List.length Hxb9] rfl rfl ?_ rfl rfl (gopf_call rfl Try.call13 rfl ?_ (g_rplain _ ⟨0, 0, 0, 0, 0, [], 0, 0, 0⟩ _ _ _ .none)) rfl ?_ ?_ ?_ ?_
        · simp; done
        · intro _ h; cases h; done
        · intro _ h; cases h; done
        focus
          refine List.forall_mem_cons.2 ⟨⟨⟨?_, ?_⟩, ?_⟩, ?_⟩
          rotate_left 1
          refine Hp.at_put_eq ?_
          · simp; done
          · intro h; cases h; done
          focus
            refine List.forall_mem_cons.2 ⟨⟨⟨?_, ?_⟩, ?_⟩, ?_⟩
            rotate_left 1
            refine (Hp.at_put_ne ?_).trans ?_
            · omega
            refine (Hp.at_push_lt ?_).trans ?_
            · omega
            refine (HExt.eq (by assumption) _ ?_ ?_).trans ?_
            · simp; omega
            · simp; done
            refine (Hp.at_push_lt ?_).trans ?_
            · simp; done
            refine Hp.at_put_eq ?_
            · simp; done
            · intro h; cases h; done
            · intro _ h; cases h; done
        · simp; done
        rintro _ Hxb12 ⟨rfl, xb12⟩
        have xb12l := HExt.len xb12; try simp at xb12l
        refine ⟨?_, ?_⟩
        · simp; omega
        refine GPcs.reads (by simp only [List.filterMap_cons, List.filterMap_nil, List.getElem?_toArray, List.getElem?_cons_succ, List.getElem?_cons_zero]; rfl) ?_
        refine GQ.take rfl rfl ?_ ?_
        · simp; done
        focus
          refine GQ.r rfl rfl rfl rfl (grd_aeqlK (b := ?_) tab_is rfl rfl rfl rfl rfl rfl ?_ ?_ ?_) ?_ ?_
          rotate_left 1
          · rfl
          · rfl
          · simp [lEq, cEq]; rfl
          · exact .inl rfl
        refine GQ.r rfl rfl rfl rfl (grd_pick_t rfl rfl ?_ rfl) ?_ ?_
        · exact decide_eq_true (by omega)
        · exact .inl rfl
        refine GQ.r rfl rfl rfl rfl (grd_assign rfl rfl) ?_ ?_
        · exact .inl rfl
        refine GQ.nil ?_
        refine GPcs.nil ?_
        refine GWP.ret ?_
        refine ⟨_, .one rfl, ?_⟩
        · rfl
    ·
      refine GCalls.body tab_is Try.func5 rfl Try.results5 Try.ntmps5 (by simp) ?_ ?_
      · first | (intro _ h; cases h; done) | (simp; done) | (simp; omega) | (intro i hi; simp at hi; rcases hi with rfl | rfl <;> omega) | (intro i hi; simp at hi; rcases hi with rfl | rfl | rfl <;> omega)
      focus
        refine GWP.seq ?_
        refine GWP.region ?_
        refine GOps.r rfl rfl rfl rfl (grd_assign rfl rfl) ?_
        refine GOps.nil ?_
        refine GWP.seq ?_
        refine GWP.seq ?_
        refine GWP.region ?_
        refine GOps.w1 rfl rfl rfl rfl (gop_call0 (f := 12) rfl Try.call12 ?_ (g_lives12 _)) ?_
        · intro _ h; cases h; done
        refine GOps.r rfl rfl rfl rfl (grd_not rfl rfl) ?_
        refine GOps.r rfl rfl rfl rfl (grd_move rfl rfl) ?_
        refine GOps.take rfl rfl ?_ ?_
        · simp; done
        refine GOps.r rfl rfl rfl rfl (grd_move rfl rfl) ?_
        refine GOps.take rfl rfl ?_ ?_
        · simp; done
        refine GOps.r rfl rfl rfl rfl (grd_len tab_is rfl rfl rfl rfl rfl) ?_
        refine GOps.take rfl rfl ?_ ?_
        · simp; done
        refine GOps.r rfl rfl rfl rfl (grd_gtr rfl rfl rfl) ?_
        refine GOps.r rfl rfl rfl rfl (grd_pick_f rfl rfl ?_ rfl) ?_
        · simp; done
        refine GOps.nil ?_
        refine GWP.cond_f rfl ?_ ?_
        · exact decide_eq_false (by omega)
        refine GWP.skip ?_
        refine GWP.seq ?_
        refine GWP.region ?_
        focus
          refine GOps.w1 rfl rfl rfl rfl (gop_lit (id := ?_) (cs := ?_) ?_ tab_is rfl rfl rfl ?_ ?_ rfl ?_ ?_) ?_
          rotate_left 2
          · rfl
          · decide
          · decide
          · simp [gfill, gsets, Value.cells]; rfl
          · rfl
        refine GOps.r rfl rfl rfl rfl (grd_move rfl rfl) ?_
        focus
          refine GOps.w1 rfl rfl rfl rfl (gop_fullB (id := ?_) (L := ?_) (M := ?_) (K := ?_) ?_ tab_is rfl rfl rfl rfl ?_ ?_ ?_ (gsrc_bs rfl rfl rfl ?_) ?_ ?_ ?_ ?_) ?_
          rotate_left 4
          · simp; rfl
          refine bs_emptyE (b := ?_) ?_ ?_ ?_ ?_ ?_
          rotate_left 1
          · exact Hp.at_push_eq
          · rfl
          · decide
          · rfl
          · rfl
          · decide
          · omega
          focus
            refine BS.ext (by assumption) ?_
            refine HExt.push ?_
            · exact HExt.refl _ _
          · exact BS.len (by assumption)
          · simp only [List.nil_append]; rfl
          · omega
          · omega
        refine GOps.r rfl rfl rfl rfl (grd_assign rfl rfl) ?_
        refine GOps.nil ?_
        refine GWP.seq ?_
        refine GWP.region ?_
        refine GOps.r rfl rfl rfl rfl (grd_move rfl rfl) ?_
        focus
          refine GOps.w rfl rfl rfl rfl (gop_call rfl Try.call17 rfl ?_ (g_vopenF _ _ _ _ ?_ ?_ ?_)) ?_
          · intro _ h; cases h; done
          rotate_left 1
          focus
            refine bs_push ?_ ?_
            · simp; done
            · simp; done
          · omega
        rintro _ Hxd7 ⟨⟨gd1, pd2, cd3, rfl, ld4, rd5, fd6⟩, xd7⟩
        simp at ld4
        have xd7l := HExt.len xd7; try simp at xd7l
        have rd5g := RG.hg rd5; unfold rdBlk at rd5g; have rd5q := Hp.at_lt rd5g
        focus
          refine GOps.w rfl rfl rfl rfl (gop_call rfl Try.call16 rfl ?_ (hR2 _ _ ?_ ?_ ?_ (H.length + 1) ?_ ?_ ?_ ?_ ?_ ?_)) ?_
          · simp [Ctx.may]; omega
          rotate_left 2
          · assumption
          rotate_left 1
          refine (HExt.eq (by assumption) _ ?_ ?_).trans ?_
          · simp; done
          · intro h; cases h; done
          refine Hp.at_push_id ?_
          · simp; done
          · omega
          rotate_left 1
          · assumption
          · simp; done
        rintro _ Hxd9 ⟨rfl, kd8, xd9⟩
        have xd9l := HExt.len xd9; try simp at xd9l
        refine GOps.r rfl rfl rfl rfl (grd_move rfl rfl) ?_
        focus
          refine GOps.r rfl rfl rfl rfl (grd_extract (v := ?_) rfl rfl ?_) ?_
          rotate_left 1
          · simp only [List.getElem?_toArray, List.getElem?_cons_zero, List.getElem?_cons_succ]; rfl
        focus
          refine GOps.r rfl rfl rfl rfl (grd_extract (v := ?_) rfl rfl ?_) ?_
          rotate_left 1
          · simp only [List.getElem?_toArray, List.getElem?_cons_zero, List.getElem?_cons_succ]; rfl
        focus
          refine GOps.w1 rfl rfl rfl rfl (gop_alloc' (id := ?_) ?_ tab_is rfl rfl ?_) ?_
          rotate_left 1
          · rfl
          · decide
        focus
          refine GOps.s rfl rfl rfl (gop_storeC (b := ?_) (cs := ?_) tab_is rfl rfl ?_ rfl rfl ?_ ?_ ?_ ?_ ?_ ?_) ?_
          rotate_left 2
          · rfl
          · rfl
          · exact Hp.at_push_eq
          · rfl
          · decide
          · exact .inr (by simp; omega)
          · simp [splice, Value.cells]; rfl
        refine GOps.r rfl rfl rfl rfl (grd_assign rfl rfl) ?_
        refine GOps.nil ?_
        refine GWP.seq ?_
        refine GWP.region ?_
        refine GOps.r rfl rfl rfl rfl (grd_move rfl rfl) ?_
        focus
          refine GOps.r rfl rfl rfl rfl (grd_build (cs := ?_) tab_is rfl rfl rfl ?_ rfl ?_) ?_
          rotate_left 1
          · decide
          · simp [gfill, gsets, Value.cells]; rfl
        focus
          refine GOps.w1 rfl rfl rfl rfl (gop_box' (id := ?_) ?_ rfl rfl rfl) ?_
          rotate_left 1
          · simp; rfl
        focus
          refine GOps.w rfl rfl rfl rfl (gop_call rfl Try.call20 rfl ?_ (hQ _ _ ?_ ?_ ?_)) ?_
          · simp [Ctx.may]; omega
          rotate_left 2
          refine rg_mk (b := ?_) ?_ ?_ ?_ ?_
          rotate_left 1
          refine Hp.at_push_id ?_
          · simp; done
          · rfl
          focus
            refine BS.ext (by assumption) ?_
            refine HExt.push ?_
            refine HExt.put ?_ ?_
            refine HExt.push ?_
            refine HExt.tr ?_ (by assumption) ?_
            refine HExt.tr ?_ (by assumption) ?_
            refine HExt.push ?_
            refine HExt.push ?_
            · exact HExt.refl _ _
            · intro _ h; cases h; done
            · simp; omega
            · exact .inr (by omega)
          · simp only; omega
        rintro _ Hxd11 ⟨rfl, _, kd10, xd11⟩
        have xd11l := HExt.len xd11; try simp at xd11l
        refine GOps.r rfl rfl rfl rfl (grd_move rfl rfl) ?_
        focus
          refine GOps.r rfl rfl rfl rfl (grd_extract (v := ?_) rfl rfl ?_) ?_
          rotate_left 1
          · simp only [List.getElem?_toArray, List.getElem?_cons_zero, List.getElem?_cons_succ]; rfl
        focus
          refine GOps.r rfl rfl rfl rfl (grd_extract (v := ?_) rfl rfl ?_) ?_
          rotate_left 1
          · simp only [List.getElem?_toArray, List.getElem?_cons_zero, List.getElem?_cons_succ]; rfl
        focus
          refine GOps.w1 rfl rfl rfl rfl (gop_alloc' (id := ?_) ?_ tab_is rfl rfl ?_) ?_
          rotate_left 1
          · rfl
          · decide
        focus
          refine GOps.s rfl rfl rfl (gop_storeC (b := ?_) (cs := ?_) tab_is rfl rfl ?_ rfl rfl ?_ ?_ ?_ ?_ ?_ ?_) ?_
          rotate_left 2
          · rfl
          · rfl
          · exact Hp.at_push_eq
          · rfl
          · decide
          · exact .inr (by simp; omega)
          · simp [splice, Value.cells]; rfl
        refine GOps.r rfl rfl rfl rfl (grd_assign rfl rfl) ?_
        refine GOps.nil ?_
        refine GWP.seq ?_
        refine GWP.seq ?_
        refine GWP.region ?_
        refine GOps.r rfl rfl rfl rfl (grd_move rfl rfl) ?_
        refine GOps.r rfl rfl rfl rfl (grd_len tab_is rfl rfl rfl rfl rfl) ?_
        refine GOps.r rfl rfl rfl rfl (grd_move rfl rfl) ?_
        refine GOps.nil ?_
        refine GWP.block ?_
      refine GWP.loop (α := Nat) (fun k => [(3, .slice (some ⟨H.length + 1, 0, none⟩) (0 + L.length) capU), (4, .pointer (some ⟨Hxd9.length, 0, none⟩)), (5, .int .i64 (e : Int)), (6, .pointer (some ⟨Hxd11.length, 0, none⟩)), (7, .int .i64 (e : Int)), (34, .int .i64 ((0 + L.length : Nat) : Int)), (35, .int .i64 (k : Int))]) (fun k H' => k ≤ L.length ∧ (∃ M : List UInt8, M.length = L.length ∧ H'.at (H.length + 1) = some ⟨5, 1, vb M, true⟩) ∧ H'.at Hxd9.length = some ⟨43, 1, [.int .u8 0, .int .i64 0, .int .i64 0, .int .i64 0, .int .i64 0, .slice none 0 0, .int .i64 0, .int .u64 0, .int .u64 0], true⟩ ∧ H'.at Hxd11.length = some ⟨45, 1, [.int .u8 0, .int .i64 0, .int .i64 0, .int .i64 0, .int .i64 0, .string ⟨#[]⟩, .int .i64 0, .int .u64 0, .int .u64 0], true⟩) (fun k => L.length - k) 0 ?_ ?_ ?_
      ·
        repeat (first | exact Env.sub_nil | refine Env.sub_cons rfl ?_ | (refine Env.sub_cons (congrArg some ?_) ?_; (· first | rfl | go_num | (simp; done))))
      · refine ⟨by omega, ⟨L, rfl, ?_⟩, ?_, ?_⟩
        · ((repeat (first | (refine (killO_ne ?_).trans ?_; (· (intro hq; first | (have := lt_io _ hq; first | omega | (simp; omega)) | (have := lt_ig _ hq; first | omega | (simp; omega))))) | (refine (Hp.at_put_ne ?_).trans ?_; (· (first | assumption | (exact Ne.symm (by assumption)) | omega | (simp; done) | (simp; omega)))) | (refine (Hp.at_push_lt ?_).trans ?_; (· (first | assumption | omega | (simp; done) | (simp; omega)))) | (refine (Hp.at_kill_ne ?_).trans ?_; (· (first | assumption | (exact Ne.symm (by assumption)) | omega | (simp; done) | (simp; omega)))) | (refine (HExt.eq (by assumption) _ ?_ ?_).trans ?_; (· (first | assumption | omega | (simp; done) | (simp; omega))); (· (first | (intro h; cases h; done) | (simp; done) | (simp; omega)))))); (first | assumption | exact Hp.at_push_eq | (refine Hp.at_push_id ?_; (· (first | rfl | assumption | omega | (simp; done) | (simp; omega)))) | (refine Hp.at_put_eq ?_; (· (first | assumption | omega | (simp; done) | (simp; omega)))) | (refine Hp.at_put_id ?_ ?_; (· (first | rfl | assumption | omega | (simp; done) | (simp; omega))); (· (first | assumption | omega | (simp; done) | (simp; omega))))))
        · ((repeat (first | (refine (killO_ne ?_).trans ?_; (· (intro hq; first | (have := lt_io _ hq; first | omega | (simp; omega)) | (have := lt_ig _ hq; first | omega | (simp; omega))))) | (refine (Hp.at_put_ne ?_).trans ?_; (· (first | assumption | (exact Ne.symm (by assumption)) | omega | (simp; done) | (simp; omega)))) | (refine (Hp.at_push_lt ?_).trans ?_; (· (first | assumption | omega | (simp; done) | (simp; omega)))) | (refine (Hp.at_kill_ne ?_).trans ?_; (· (first | assumption | (exact Ne.symm (by assumption)) | omega | (simp; done) | (simp; omega)))) | (refine (HExt.eq (by assumption) _ ?_ ?_).trans ?_; (· (first | assumption | omega | (simp; done) | (simp; omega))); (· (first | (intro h; cases h; done) | (simp; done) | (simp; omega)))))); (first | assumption | exact Hp.at_push_eq | (refine Hp.at_push_id ?_; (· (first | rfl | assumption | omega | (simp; done) | (simp; omega)))) | (refine Hp.at_put_eq ?_; (· (first | assumption | omega | (simp; done) | (simp; omega)))) | (refine Hp.at_put_id ?_ ?_; (· (first | rfl | assumption | omega | (simp; done) | (simp; omega))); (· (first | assumption | omega | (simp; done) | (simp; omega))))))
        · ((repeat (first | (refine (killO_ne ?_).trans ?_; (· (intro hq; first | (have := lt_io _ hq; first | omega | (simp; omega)) | (have := lt_ig _ hq; first | omega | (simp; omega))))) | (refine (Hp.at_put_ne ?_).trans ?_; (· (first | assumption | (exact Ne.symm (by assumption)) | omega | (simp; done) | (simp; omega)))) | (refine (Hp.at_push_lt ?_).trans ?_; (· (first | assumption | omega | (simp; done) | (simp; omega)))) | (refine (Hp.at_kill_ne ?_).trans ?_; (· (first | assumption | (exact Ne.symm (by assumption)) | omega | (simp; done) | (simp; omega)))) | (refine (HExt.eq (by assumption) _ ?_ ?_).trans ?_; (· (first | assumption | omega | (simp; done) | (simp; omega))); (· (first | (intro h; cases h; done) | (simp; done) | (simp; omega)))))); (first | assumption | exact Hp.at_push_eq | (refine Hp.at_push_id ?_; (· (first | rfl | assumption | omega | (simp; done) | (simp; omega)))) | (refine Hp.at_put_eq ?_; (· (first | assumption | omega | (simp; done) | (simp; omega)))) | (refine Hp.at_put_id ?_ ?_; (· (first | rfl | assumption | omega | (simp; done) | (simp; omega))); (· (first | assumption | omega | (simp; done) | (simp; omega))))))
      rintro k H' ⟨hk, ⟨M, hM, hown⟩, h4, h6⟩
      have hlo := Hp.at_lt hown
      have hl4 := Hp.at_lt h4
      have hl6 := Hp.at_lt h6
      by_cases hkn : k < L.length
      · focus
          refine GWP.seq ?_
          refine GWP.region ?_
          refine GOps.r rfl rfl rfl rfl (grd_lss rfl rfl rfl) ?_
          refine GOps.nil ?_
          refine GWP.seq ?_
          refine GWP.cond_t rfl ?_ ?_
          · exact decide_eq_true (by omega)
          refine GWP.skip ?_
          refine GWP.seq ?_
          refine GWP.block ?_
          refine GWP.seq ?_
          refine GWP.region ?_
          refine GOps.r rfl rfl rfl rfl (grd_move rfl rfl) ?_
          refine GOps.r rfl rfl rfl rfl (grd_assign rfl rfl) ?_
          refine GOps.nil ?_
          refine GWP.region ?_
          refine GOps.r rfl rfl rfl rfl (grd_move rfl rfl) ?_
          refine GOps.r rfl rfl rfl rfl (grd_move rfl rfl) ?_
          refine GOps.r rfl rfl rfl rfl (grd_indexAddr1 tab_is rfl rfl rfl rfl rfl ?_) ?_
          · omega
          focus
            refine GOps.r rfl rfl rfl rfl (grd_load1 (b := ?_) (v := ?_) tab_is rfl rfl rfl rfl ?_ ?_) ?_
            rotate_left 2
            · assumption
            · refine vb_get _ _ ?_; omega
          refine GOps.r rfl rfl rfl rfl (grd_bits .xor (.inr (.inr (.inl rfl))) rfl rfl rfl) ?_
          refine GOps.r rfl rfl rfl rfl (grd_indexAddr1 tab_is rfl rfl rfl rfl rfl ?_) ?_
          · omega
          focus
            refine GOps.s rfl rfl rfl (gop_store1 (b := ?_) tab_is rfl rfl rfl rfl rfl rfl ?_ ?_ ?_ ?_) ?_
            rotate_left 1
            · assumption
            · rfl
            · simp; omega
            · exact .inr (by simp)
          refine GOps.nil ?_
          refine GWP.region ?_
          refine GOps.r rfl rfl rfl rfl (grd_add64 rfl rfl rfl ?_) ?_
          · omega
          refine GOps.r rfl rfl rfl rfl (grd_move rfl rfl) ?_
          refine GOps.nil ?_
        refine ⟨k + 1, ?_, ⟨by omega, ?_, (Hp.at_put_ne (by omega)).trans h4, (Hp.at_put_ne (by omega)).trans h6⟩, by omega⟩
        ·
          repeat (first | exact Env.sub_nil | refine Env.sub_cons rfl ?_ | (refine Env.sub_cons (congrArg some ?_) ?_; (· first | rfl | go_num | (simp; done))))
        · obtain ⟨M', h1, h2⟩ := xor_step hlo
          exact ⟨M', h1.trans hM, h2⟩
      · focus
          refine GWP.seq ?_
          refine GWP.region ?_
          refine GOps.r rfl rfl rfl rfl (grd_lss rfl rfl rfl) ?_
          refine GOps.nil ?_
          refine GWP.seq ?_
          refine GWP.cond_f rfl ?_ ?_
          · exact decide_eq_false (by omega)
          refine GWP.exit ?_
          refine GWP.seq ?_
          refine GWP.draw [.reads [0, 1, 2, 3, 4, 6], .write 5, .reads [7, 8, 9]] false [List.length Hxd9, List.length Hxd11] (by kernel_rfl) (by kernel_rfl) (by kernel_rfl) (by kernel_rfl) ?_ ?_
          · simp; omega
          refine GPcs.reads (by simp only [List.filterMap_cons, List.filterMap_nil, List.getElem?_toArray, List.getElem?_cons_succ, List.getElem?_cons_zero]; rfl) ?_
          refine GQ.r rfl rfl rfl rfl (grd_move rfl rfl) ?_ ?_
          · refine .inr ?_; simp
          refine GQ.r rfl rfl rfl rfl (grd_move rfl rfl) ?_ ?_
          · refine .inr ?_; simp
          refine GQ.r rfl rfl rfl rfl (grd_eql rfl rfl rfl) ?_ ?_
          · refine .inr ?_; simp
          refine GQ.r rfl rfl rfl rfl (grd_move rfl rfl) ?_ ?_
          · refine .inr ?_; simp
          refine GQ.take rfl rfl ?_ ?_
          · simp; done
          focus
            refine GQ.r rfl rfl rfl rfl (grd_loadNK (b := ?_) (cs := ?_) tab_is rfl rfl rfl rfl ?_ ?_ ?_) ?_ ?_
            rotate_left 2
            · assumption
            · decide
            · simp [Value.cells]; rfl
            · refine .inr ?_; simp
          refine GQ.take rfl rfl ?_ ?_
          · simp; done
          focus
            refine GQ.r rfl rfl rfl rfl (grd_loadNK (b := ?_) (cs := ?_) tab_is rfl rfl rfl rfl ?_ ?_ ?_) ?_ ?_
            rotate_left 2
            · assumption
            · decide
            · simp [Value.cells]; rfl
            · refine .inr ?_; simp
          refine GQ.nil ?_
          refine GPcs.write true [List.length Hxd9, List.length Hxd11] rfl rfl ?_ rfl rfl (gopf_call rfl Try.call13 rfl ?_ (g_rplain _ ⟨0, 0, 0, 0, 0, [], 0, 0, 0⟩ _ _ _ .none)) rfl ?_ ?_ ?_ ?_
          · simp; done
          · intro _ h; cases h; done
          · intro _ h; cases h; done
          focus
            refine List.forall_mem_cons.2 ⟨⟨⟨?_, ?_⟩, ?_⟩, ?_⟩
            rotate_left 1
            · assumption
            · intro h; cases h; done
            focus
              refine List.forall_mem_cons.2 ⟨⟨⟨?_, ?_⟩, ?_⟩, ?_⟩
              rotate_left 1
              · assumption
              · intro h; cases h; done
              · intro _ h; cases h; done
          · simp; done
          rintro _ Hxf1 ⟨rfl, xf1⟩
          have xf1l := HExt.len xf1; try simp at xf1l
          refine ⟨?_, ?_⟩
          · simp; omega
          refine GPcs.reads (by simp only [List.filterMap_cons, List.filterMap_nil, List.getElem?_toArray, List.getElem?_cons_succ, List.getElem?_cons_zero]; rfl) ?_
          refine GQ.take rfl rfl ?_ ?_
          · simp; done
          focus
            refine GQ.r rfl rfl rfl rfl (grd_aeqlK (b := ?_) tab_is rfl rfl rfl rfl rfl rfl ?_ ?_ ?_) ?_ ?_
            rotate_left 1
            · rfl
            · rfl
            · simp [lEq, cEq]; rfl
            · exact .inl rfl
          refine GQ.r rfl rfl rfl rfl (grd_pick_t rfl rfl ?_ rfl) ?_ ?_
          · exact decide_eq_true (by omega)
          · exact .inl rfl
          refine GQ.r rfl rfl rfl rfl (grd_assign rfl rfl) ?_ ?_
          · exact .inl rfl
          refine GQ.nil ?_
          refine GPcs.nil ?_
          refine GWP.ret ?_
          refine ⟨_, .one rfl, ?_⟩
          · rfl
  | inr r =>
    have hR2 := fun H g p c h j b hb hne lo hp hlo => (hR H g p c h j b hb hne lo hp hlo).mono (R' := fun v H' => (∃ p' n' c', v = .tuple #[.agg #[.int .u8 r.kind, .int .i64 r.id, .int .i64 r.base, .int .i64 r.fr, .int .i64 r.til, .slice p' n' c', .int .i64 r.count, .int .u64 r.len, .int .u64 r.sum], .int .i64 0] ∧ BS H' (.slice p' n' c') r.blocks ∧ ∀ a, p' = some a → a.block ≠ j) ∧ BSk H H' ∧ HExt [g] H H') fun v H' q => ⟨q.1.2 r hrd, q.2⟩
    rw [hrd] at hQ
    simp only [RecS.valT, recT] at hQ
    clear hR
    rcases Nat.eq_zero_or_pos L.length with h0 | h0
    · obtain rfl : L = [] := List.eq_nil_of_length_eq_zero h0
      refine GCalls.body tab_is Try.func5 rfl Try.results5 Try.ntmps5 (by simp) ?_ ?_
      · first | (intro _ h; cases h; done) | (simp; done) | (simp; omega) | (intro i hi; simp at hi; rcases hi with rfl | rfl <;> omega) | (intro i hi; simp at hi; rcases hi with rfl | rfl | rfl <;> omega)
      focus
        refine GWP.seq ?_
        refine GWP.region ?_
        refine GOps.r rfl rfl rfl rfl (grd_assign rfl rfl) ?_
        refine GOps.nil ?_
        refine GWP.seq ?_
        refine GWP.seq ?_
        refine GWP.region ?_
        refine GOps.w1 rfl rfl rfl rfl (gop_call0 (f := 12) rfl Try.call12 ?_ (g_lives12 _)) ?_
        · intro _ h; cases h; done
        refine GOps.r rfl rfl rfl rfl (grd_not rfl rfl) ?_
        refine GOps.r rfl rfl rfl rfl (grd_move rfl rfl) ?_
        refine GOps.take rfl rfl ?_ ?_
        · simp; done
        refine GOps.r rfl rfl rfl rfl (grd_move rfl rfl) ?_
        refine GOps.take rfl rfl ?_ ?_
        · simp; done
        refine GOps.r rfl rfl rfl rfl (grd_len tab_is rfl rfl rfl rfl rfl) ?_
        refine GOps.take rfl rfl ?_ ?_
        · simp; done
        refine GOps.r rfl rfl rfl rfl (grd_gtr rfl rfl rfl) ?_
        refine GOps.r rfl rfl rfl rfl (grd_pick_f rfl rfl ?_ rfl) ?_
        · exact decide_eq_false (by assumption)
        refine GOps.nil ?_
        refine GWP.cond_f rfl ?_ ?_
        · exact decide_eq_false (by omega)
        refine GWP.skip ?_
        refine GWP.seq ?_
        refine GWP.region ?_
        focus
          refine GOps.w1 rfl rfl rfl rfl (gop_lit (id := ?_) (cs := ?_) ?_ tab_is rfl rfl rfl ?_ ?_ rfl ?_ ?_) ?_
          rotate_left 2
          · rfl
          · decide
          · decide
          · simp [gfill, gsets, Value.cells]; rfl
          · rfl
        refine GOps.r rfl rfl rfl rfl (grd_move rfl rfl) ?_
        focus
          refine GOps.w1 rfl rfl rfl rfl (gop_zeroB (L := ?_) (M := ?_) tab_is rfl rfl rfl rfl ?_ ?_ (gsrc_bs rfl rfl rfl ?_) ?_ ?_ ?_) ?_
          rotate_left 2
          refine bs_emptyE (b := ?_) ?_ ?_ ?_ ?_ ?_
          rotate_left 1
          · exact Hp.at_push_eq
          · rfl
          · decide
          · rfl
          · rfl
          · omega
          focus
            refine BS.ext (by assumption) ?_
            refine HExt.push ?_
            · exact HExt.refl _ _
          · exact BS.len (by assumption)
          · decide
          · decide
        refine GOps.r rfl rfl rfl rfl (grd_assign rfl rfl) ?_
        refine GOps.nil ?_
        refine GWP.seq ?_
        refine GWP.region ?_
        refine GOps.r rfl rfl rfl rfl (grd_move rfl rfl) ?_
        focus
          refine GOps.w rfl rfl rfl rfl (gop_call rfl Try.call17 rfl ?_ (g_vopenF _ _ _ _ ?_ ?_ ?_)) ?_
          · intro _ h; cases h; done
          rotate_left 1
          refine bs_emptyE (b := ?_) ?_ ?_ ?_ ?_ ?_
          rotate_left 1
          · exact Hp.at_push_eq
          · rfl
          · decide
          · rfl
          · rfl
          · omega
        rintro _ Hxg7 ⟨⟨gg1, pg2, cg3, rfl, lg4, rg5, fg6⟩, xg7⟩
        simp at lg4
        have xg7l := HExt.len xg7; try simp at xg7l
        have rg5g := RG.hg rg5; unfold rdBlk at rg5g; have rg5q := Hp.at_lt rg5g
        focus
          refine GOps.w rfl rfl rfl rfl (gop_call rfl Try.call16 rfl ?_ (hR2 _ _ ?_ ?_ ?_ H.length ?_ ?_ ?_ ?_ ?_ ?_)) ?_
          · simp [Ctx.may]; omega
          rotate_left 2
          · assumption
          rotate_left 1
          refine (HExt.eq (by assumption) _ ?_ ?_).trans ?_
          · simp; done
          · intro h; cases h; done
          · exact Hp.at_push_eq
          · omega
          rotate_left 1
          · assumption
          · simp; done
        rintro _ Hxg14 ⟨⟨pg8, ng9, cg10, rfl, bg11, fg12⟩, kg13, xg14⟩
        have xg14l := HExt.len xg14; try simp at xg14l
        refine GOps.r rfl rfl rfl rfl (grd_move rfl rfl) ?_
        focus
          refine GOps.r rfl rfl rfl rfl (grd_extract (v := ?_) rfl rfl ?_) ?_
          rotate_left 1
          · simp only [List.getElem?_toArray, List.getElem?_cons_zero, List.getElem?_cons_succ]; rfl
        focus
          refine GOps.r rfl rfl rfl rfl (grd_extract (v := ?_) rfl rfl ?_) ?_
          rotate_left 1
          · simp only [List.getElem?_toArray, List.getElem?_cons_zero, List.getElem?_cons_succ]; rfl
        focus
          refine GOps.w1 rfl rfl rfl rfl (gop_alloc' (id := ?_) ?_ tab_is rfl rfl ?_) ?_
          rotate_left 1
          · rfl
          · decide
        focus
          refine GOps.s rfl rfl rfl (gop_storeC (b := ?_) (cs := ?_) tab_is rfl rfl ?_ rfl rfl ?_ ?_ ?_ ?_ ?_ ?_) ?_
          rotate_left 2
          · rfl
          · rfl
          · exact Hp.at_push_eq
          · rfl
          · exact Nat.le_of_ble_eq_true rfl
          · exact .inr (by simp; omega)
          · simp [splice, Value.cells]; rfl
        refine GOps.r rfl rfl rfl rfl (grd_assign rfl rfl) ?_
        refine GOps.nil ?_
        refine GWP.seq ?_
        refine GWP.region ?_
        refine GOps.r rfl rfl rfl rfl (grd_move rfl rfl) ?_
        focus
          refine GOps.r rfl rfl rfl rfl (grd_build (cs := ?_) tab_is rfl rfl rfl ?_ rfl ?_) ?_
          rotate_left 1
          · decide
          · simp [gfill, gsets, Value.cells]; rfl
        focus
          refine GOps.w1 rfl rfl rfl rfl (gop_box' (id := ?_) ?_ rfl rfl rfl) ?_
          rotate_left 1
          · simp; rfl
        focus
          refine GOps.w rfl rfl rfl rfl (gop_call rfl Try.call20 rfl ?_ (hQ _ _ ?_ ?_ ?_)) ?_
          · simp [Ctx.may]; omega
          rotate_left 2
          refine rg_mk (b := ?_) ?_ ?_ ?_ ?_
          rotate_left 1
          refine Hp.at_push_id ?_
          · simp; done
          · rfl
          focus
            refine BS.ext (by assumption) ?_
            refine HExt.push ?_
            refine HExt.put ?_ ?_
            refine HExt.push ?_
            refine HExt.tr ?_ (by assumption) ?_
            refine HExt.tr ?_ (by assumption) ?_
            refine HExt.push ?_
            · exact HExt.refl _ _
            · intro _ h; cases h; done
            · simp; omega
            · exact .inr (by omega)
          · simp only; omega
        rintro _ Hxg16 ⟨rfl, _, kg15, xg16⟩
        have xg16l := HExt.len xg16; try simp at xg16l
        refine GOps.r rfl rfl rfl rfl (grd_move rfl rfl) ?_
        focus
          refine GOps.r rfl rfl rfl rfl (grd_extract (v := ?_) rfl rfl ?_) ?_
          rotate_left 1
          · simp only [List.getElem?_toArray, List.getElem?_cons_zero, List.getElem?_cons_succ]; rfl
        focus
          refine GOps.r rfl rfl rfl rfl (grd_extract (v := ?_) rfl rfl ?_) ?_
          rotate_left 1
          · simp only [List.getElem?_toArray, List.getElem?_cons_zero, List.getElem?_cons_succ]; rfl
        focus
          refine GOps.w1 rfl rfl rfl rfl (gop_alloc' (id := ?_) ?_ tab_is rfl rfl ?_) ?_
          rotate_left 1
          · rfl
          · decide
        focus
          refine GOps.s rfl rfl rfl (gop_storeC (b := ?_) (cs := ?_) tab_is rfl rfl ?_ rfl rfl ?_ ?_ ?_ ?_ ?_ ?_) ?_
          rotate_left 2
          · rfl
          · rfl
          · exact Hp.at_push_eq
          · rfl
          · exact Nat.le_of_ble_eq_true rfl
          · exact .inr (by simp; omega)
          · simp [splice, Value.cells]; rfl
        refine GOps.r rfl rfl rfl rfl (grd_assign rfl rfl) ?_
        refine GOps.nil ?_
        refine GWP.seq ?_
        refine GWP.seq ?_
        refine GWP.region ?_
        refine GOps.r rfl rfl rfl rfl (grd_move rfl rfl) ?_
        refine GOps.r rfl rfl rfl rfl (grd_len tab_is rfl rfl rfl rfl rfl) ?_
        refine GOps.r rfl rfl rfl rfl (grd_move rfl rfl) ?_
        refine GOps.nil ?_
        refine GWP.block ?_
        refine GWP.loopN 2 ?_
        refine GRounds.step ?_
        refine GWP.seq ?_
        refine GWP.region ?_
        refine GOps.r rfl rfl rfl rfl (grd_lss rfl rfl rfl) ?_
        refine GOps.nil ?_
        refine GWP.seq ?_
        refine GWP.cond_f rfl ?_ ?_
        · exact decide_eq_false (by omega)
        refine GWP.exit ?_
        refine GWP.seq ?_
        refine GWP.draw [.reads [0, 1, 2, 3, 4, 6], .write 5, .reads [7, 8, 9]] false [List.length Hxg16, List.length Hxg14] (by kernel_rfl) (by kernel_rfl) (by kernel_rfl) (by kernel_rfl) ?_ ?_
        · simp; omega
        refine GPcs.reads (by simp only [List.filterMap_cons, List.filterMap_nil, List.getElem?_toArray, List.getElem?_cons_succ, List.getElem?_cons_zero]; rfl) ?_
        refine GQ.r rfl rfl rfl rfl (grd_move rfl rfl) ?_ ?_
        · refine .inr ?_; simp
        refine GQ.r rfl rfl rfl rfl (grd_move rfl rfl) ?_ ?_
        · refine .inr ?_; simp
        refine GQ.r rfl rfl rfl rfl (grd_eql rfl rfl rfl) ?_ ?_
        · refine .inr ?_; simp
        refine GQ.r rfl rfl rfl rfl (grd_move rfl rfl) ?_ ?_
        · refine .inr ?_; simp
        refine GQ.take rfl rfl ?_ ?_
        · simp; done
        focus
          refine GQ.r rfl rfl rfl rfl (grd_loadNK (b := ?_) (cs := ?_) tab_is rfl rfl rfl rfl ?_ ?_ ?_) ?_ ?_
          rotate_left 2
          refine (Hp.at_put_ne ?_).trans ?_
          · omega
          refine (Hp.at_push_lt ?_).trans ?_
          · omega
          refine (HExt.eq (by assumption) _ ?_ ?_).trans ?_
          · simp; omega
          · simp; done
          refine (Hp.at_push_lt ?_).trans ?_
          · simp; done
          refine Hp.at_put_eq ?_
          · simp; done
          · exact Nat.le_of_ble_eq_true rfl
          · simp [Value.cells]; rfl
          · refine .inr ?_; simp
        refine GQ.take rfl rfl ?_ ?_
        · simp; done
        focus
          refine GQ.r rfl rfl rfl rfl (grd_loadNK (b := ?_) (cs := ?_) tab_is rfl rfl rfl rfl ?_ ?_ ?_) ?_ ?_
          rotate_left 2
          refine Hp.at_put_eq ?_
          · simp; done
          · exact Nat.le_of_ble_eq_true rfl
          · simp [Value.cells]; rfl
          · refine .inr ?_; simp
        refine GQ.nil ?_
        refine GPcs.write true [List.length Hxg16, List.length Hxg14] rfl rfl ?_ rfl rfl (gopf_call rfl Try.call13 rfl ?_ (g_rplain _ r _ _ _ ?_)) rfl ?_ ?_ ?_ ?_
        · simp; done
        · intro _ h; cases h; done
        focus
          refine BS.ext (by assumption) ?_
          refine HExt.put ?_ ?_
          refine HExt.push ?_
          refine HExt.tr ?_ (by assumption) ?_
          refine HExt.push ?_
          refine HExt.put ?_ ?_
          refine HExt.push ?_
          · exact HExt.refl _ _
          · exact .inr (by omega)
          · simp; done
          · exact .inr (by omega)
        · intro _ h; cases h; done
        focus
          refine List.forall_mem_cons.2 ⟨⟨⟨?_, ?_⟩, ?_⟩, ?_⟩
          rotate_left 1
          refine Hp.at_put_eq ?_
          · simp; done
          · intro h; cases h; done
          focus
            refine List.forall_mem_cons.2 ⟨⟨⟨?_, ?_⟩, ?_⟩, ?_⟩
            rotate_left 1
            refine (Hp.at_put_ne ?_).trans ?_
            · omega
            refine (Hp.at_push_lt ?_).trans ?_
            · omega
            refine (HExt.eq (by assumption) _ ?_ ?_).trans ?_
            · simp; omega
            · simp; done
            refine (Hp.at_push_lt ?_).trans ?_
            · simp; done
            refine Hp.at_put_eq ?_
            · simp; done
            · intro h; cases h; done
            · intro _ h; cases h; done
        · simp; done
        rintro _ Hxg17 ⟨rfl, xg17⟩
        have xg17l := HExt.len xg17; try simp at xg17l
        refine ⟨?_, ?_⟩
        · simp; omega
        refine GPcs.reads (by simp only [List.filterMap_cons, List.filterMap_nil, List.getElem?_toArray, List.getElem?_cons_succ, List.getElem?_cons_zero]; rfl) ?_
        refine GQ.take rfl rfl ?_ ?_
        · simp; done
        focus
          refine GQ.r rfl rfl rfl rfl (grd_aeqlK (b := ?_) tab_is rfl rfl rfl rfl rfl rfl ?_ ?_ ?_) ?_ ?_
          rotate_left 1
          · rfl
          · rfl
          · simp [lEq, cEq]; rfl
          · exact .inl rfl
        refine GQ.r rfl rfl rfl rfl (grd_pick_t rfl rfl ?_ rfl) ?_ ?_
        · exact decide_eq_true (by omega)
        · exact .inl rfl
        refine GQ.r rfl rfl rfl rfl (grd_assign rfl rfl) ?_ ?_
        · exact .inl rfl
        refine GQ.nil ?_
        refine GPcs.nil ?_
        refine GWP.ret ?_
        refine ⟨_, .one rfl, ?_⟩
        · rfl
    ·
      refine GCalls.body tab_is Try.func5 rfl Try.results5 Try.ntmps5 (by simp) ?_ ?_
      · first | (intro _ h; cases h; done) | (simp; done) | (simp; omega) | (intro i hi; simp at hi; rcases hi with rfl | rfl <;> omega) | (intro i hi; simp at hi; rcases hi with rfl | rfl | rfl <;> omega)
      focus
        refine GWP.seq ?_
        refine GWP.region ?_
        refine GOps.r rfl rfl rfl rfl (grd_assign rfl rfl) ?_
        refine GOps.nil ?_
        refine GWP.seq ?_
        refine GWP.seq ?_
        refine GWP.region ?_
        refine GOps.w1 rfl rfl rfl rfl (gop_call0 (f := 12) rfl Try.call12 ?_ (g_lives12 _)) ?_
        · intro _ h; cases h; done
        refine GOps.r rfl rfl rfl rfl (grd_not rfl rfl) ?_
        refine GOps.r rfl rfl rfl rfl (grd_move rfl rfl) ?_
        refine GOps.take rfl rfl ?_ ?_
        · simp; done
        refine GOps.r rfl rfl rfl rfl (grd_move rfl rfl) ?_
        refine GOps.take rfl rfl ?_ ?_
        · simp; done
        refine GOps.r rfl rfl rfl rfl (grd_len tab_is rfl rfl rfl rfl rfl) ?_
        refine GOps.take rfl rfl ?_ ?_
        · simp; done
        refine GOps.r rfl rfl rfl rfl (grd_gtr rfl rfl rfl) ?_
        refine GOps.r rfl rfl rfl rfl (grd_pick_f rfl rfl ?_ rfl) ?_
        · simp; done
        refine GOps.nil ?_
        refine GWP.cond_f rfl ?_ ?_
        · exact decide_eq_false (by omega)
        refine GWP.skip ?_
        refine GWP.seq ?_
        refine GWP.region ?_
        focus
          refine GOps.w1 rfl rfl rfl rfl (gop_lit (id := ?_) (cs := ?_) ?_ tab_is rfl rfl rfl ?_ ?_ rfl ?_ ?_) ?_
          rotate_left 2
          · rfl
          · decide
          · decide
          · simp [gfill, gsets, Value.cells]; rfl
          · rfl
        refine GOps.r rfl rfl rfl rfl (grd_move rfl rfl) ?_
        focus
          refine GOps.w1 rfl rfl rfl rfl (gop_fullB (id := ?_) (L := ?_) (M := ?_) (K := ?_) ?_ tab_is rfl rfl rfl rfl ?_ ?_ ?_ (gsrc_bs rfl rfl rfl ?_) ?_ ?_ ?_ ?_) ?_
          rotate_left 4
          · simp; rfl
          refine bs_emptyE (b := ?_) ?_ ?_ ?_ ?_ ?_
          rotate_left 1
          · exact Hp.at_push_eq
          · rfl
          · decide
          · rfl
          · rfl
          · decide
          · omega
          focus
            refine BS.ext (by assumption) ?_
            refine HExt.push ?_
            · exact HExt.refl _ _
          · exact BS.len (by assumption)
          · simp only [List.nil_append]; rfl
          · omega
          · omega
        refine GOps.r rfl rfl rfl rfl (grd_assign rfl rfl) ?_
        refine GOps.nil ?_
        refine GWP.seq ?_
        refine GWP.region ?_
        refine GOps.r rfl rfl rfl rfl (grd_move rfl rfl) ?_
        focus
          refine GOps.w rfl rfl rfl rfl (gop_call rfl Try.call17 rfl ?_ (g_vopenF _ _ _ _ ?_ ?_ ?_)) ?_
          · intro _ h; cases h; done
          rotate_left 1
          focus
            refine bs_push ?_ ?_
            · simp; done
            · simp; done
          · omega
        rintro _ Hxh7 ⟨⟨gh1, ph2, ch3, rfl, lh4, rh5, fh6⟩, xh7⟩
        simp at lh4
        have xh7l := HExt.len xh7; try simp at xh7l
        have rh5g := RG.hg rh5; unfold rdBlk at rh5g; have rh5q := Hp.at_lt rh5g
        focus
          refine GOps.w rfl rfl rfl rfl (gop_call rfl Try.call16 rfl ?_ (hR2 _ _ ?_ ?_ ?_ (H.length + 1) ?_ ?_ ?_ ?_ ?_ ?_)) ?_
          · simp [Ctx.may]; omega
          rotate_left 2
          · assumption
          rotate_left 1
          refine (HExt.eq (by assumption) _ ?_ ?_).trans ?_
          · simp; done
          · intro h; cases h; done
          refine Hp.at_push_id ?_
          · simp; done
          · omega
          rotate_left 1
          · assumption
          · simp; done
        rintro _ Hxh14 ⟨⟨ph8, nh9, ch10, rfl, bh11, fh12⟩, kh13, xh14⟩
        have xh14l := HExt.len xh14; try simp at xh14l
        refine GOps.r rfl rfl rfl rfl (grd_move rfl rfl) ?_
        focus
          refine GOps.r rfl rfl rfl rfl (grd_extract (v := ?_) rfl rfl ?_) ?_
          rotate_left 1
          · simp only [List.getElem?_toArray, List.getElem?_cons_zero, List.getElem?_cons_succ]; rfl
        focus
          refine GOps.r rfl rfl rfl rfl (grd_extract (v := ?_) rfl rfl ?_) ?_
          rotate_left 1
          · simp only [List.getElem?_toArray, List.getElem?_cons_zero, List.getElem?_cons_succ]; rfl
        focus
          refine GOps.w1 rfl rfl rfl rfl (gop_alloc' (id := ?_) ?_ tab_is rfl rfl ?_) ?_
          rotate_left 1
          · rfl
          · decide
        focus
          refine GOps.s rfl rfl rfl (gop_storeC (b := ?_) (cs := ?_) tab_is rfl rfl ?_ rfl rfl ?_ ?_ ?_ ?_ ?_ ?_) ?_
          rotate_left 2
          · rfl
          · rfl
          · exact Hp.at_push_eq
          · rfl
          · exact Nat.le_of_ble_eq_true rfl
          · exact .inr (by simp; omega)
          · simp [splice, Value.cells]; rfl
        refine GOps.r rfl rfl rfl rfl (grd_assign rfl rfl) ?_
        refine GOps.nil ?_
        refine GWP.seq ?_
        refine GWP.region ?_
        refine GOps.r rfl rfl rfl rfl (grd_move rfl rfl) ?_
        focus
          refine GOps.r rfl rfl rfl rfl (grd_build (cs := ?_) tab_is rfl rfl rfl ?_ rfl ?_) ?_
          rotate_left 1
          · decide
          · simp [gfill, gsets, Value.cells]; rfl
        focus
          refine GOps.w1 rfl rfl rfl rfl (gop_box' (id := ?_) ?_ rfl rfl rfl) ?_
          rotate_left 1
          · simp; rfl
        focus
          refine GOps.w rfl rfl rfl rfl (gop_call rfl Try.call20 rfl ?_ (hQ _ _ ?_ ?_ ?_)) ?_
          · simp [Ctx.may]; omega
          rotate_left 2
          refine rg_mk (b := ?_) ?_ ?_ ?_ ?_
          rotate_left 1
          refine Hp.at_push_id ?_
          · simp; done
          · rfl
          focus
            refine BS.ext (by assumption) ?_
            refine HExt.push ?_
            refine HExt.put ?_ ?_
            refine HExt.push ?_
            refine HExt.tr ?_ (by assumption) ?_
            refine HExt.tr ?_ (by assumption) ?_
            refine HExt.push ?_
            refine HExt.push ?_
            · exact HExt.refl _ _
            · intro _ h; cases h; done
            · simp; omega
            · exact .inr (by omega)
          · simp only; omega
        rintro _ Hxh16 ⟨rfl, _, kh15, xh16⟩
        have xh16l := HExt.len xh16; try simp at xh16l
        refine GOps.r rfl rfl rfl rfl (grd_move rfl rfl) ?_
        focus
          refine GOps.r rfl rfl rfl rfl (grd_extract (v := ?_) rfl rfl ?_) ?_
          rotate_left 1
          · simp only [List.getElem?_toArray, List.getElem?_cons_zero, List.getElem?_cons_succ]; rfl
        focus
          refine GOps.r rfl rfl rfl rfl (grd_extract (v := ?_) rfl rfl ?_) ?_
          rotate_left 1
          · simp only [List.getElem?_toArray, List.getElem?_cons_zero, List.getElem?_cons_succ]; rfl
        focus
          refine GOps.w1 rfl rfl rfl rfl (gop_alloc' (id := ?_) ?_ tab_is rfl rfl ?_) ?_
          rotate_left 1
          · rfl
          · decide
        focus
          refine GOps.s rfl rfl rfl (gop_storeC (b := ?_) (cs := ?_) tab_is rfl rfl ?_ rfl rfl ?_ ?_ ?_ ?_ ?_ ?_) ?_
          rotate_left 2
          · rfl
          · rfl
          · exact Hp.at_push_eq
          · rfl
          · exact Nat.le_of_ble_eq_true rfl
          · exact .inr (by simp; omega)
          · simp [splice, Value.cells]; rfl
        refine GOps.r rfl rfl rfl rfl (grd_assign rfl rfl) ?_
        refine GOps.nil ?_
        refine GWP.seq ?_
        refine GWP.seq ?_
        refine GWP.region ?_
        refine GOps.r rfl rfl rfl rfl (grd_move rfl rfl) ?_
        refine GOps.r rfl rfl rfl rfl (grd_len tab_is rfl rfl rfl rfl rfl) ?_
        refine GOps.r rfl rfl rfl rfl (grd_move rfl rfl) ?_
        refine GOps.nil ?_
        refine GWP.block ?_
      refine GWP.loop (α := Nat) (fun k => [(3, .slice (some ⟨H.length + 1, 0, none⟩) (0 + L.length) capU), (4, .pointer (some ⟨Hxh14.length, 0, none⟩)), (5, .int .i64 0), (6, .pointer (some ⟨Hxh16.length, 0, none⟩)), (7, .int .i64 0), (34, .int .i64 ((0 + L.length : Nat) : Int)), (35, .int .i64 (k : Int))]) (fun k H' => k ≤ L.length ∧ (∃ M : List UInt8, M.length = L.length ∧ H'.at (H.length + 1) = some ⟨5, 1, vb M, true⟩) ∧ H'.at Hxh14.length = some ⟨43, 1, [.int .u8 r.kind, .int .i64 r.id, .int .i64 r.base, .int .i64 r.fr, .int .i64 r.til, .slice ph8 nh9 ch10, .int .i64 r.count, .int .u64 r.len, .int .u64 r.sum], true⟩ ∧ H'.at Hxh16.length = some ⟨45, 1, [.int .u8 r.kind, .int .i64 r.id, .int .i64 r.base, .int .i64 r.fr, .int .i64 r.til, .string ⟨r.blocks.toArray⟩, .int .i64 r.count, .int .u64 r.len, .int .u64 r.sum], true⟩ ∧ BS H' (.slice ph8 nh9 ch10) r.blocks) (fun k => L.length - k) 0 ?_ ?_ ?_
      ·
        repeat (first | exact Env.sub_nil | refine Env.sub_cons rfl ?_ | (refine Env.sub_cons (congrArg some ?_) ?_; (· first | rfl | go_num | (simp; done))))
      · refine ⟨by omega, ⟨L, rfl, ?_⟩, ?_, ?_, bs_put Hp.at_push_eq rfl (bs_pushed (‹BSk _ Hxh16› _ _ (bs_pushed (bs_put Hp.at_push_eq rfl (bs_pushed ‹BS Hxh14 _ r.blocks›)))))⟩
        · ((repeat (first | (refine (killO_ne ?_).trans ?_; (· (intro hq; first | (have := lt_io _ hq; first | omega | (simp; omega)) | (have := lt_ig _ hq; first | omega | (simp; omega))))) | (refine (Hp.at_put_ne ?_).trans ?_; (· (first | assumption | (exact Ne.symm (by assumption)) | omega | (simp; done) | (simp; omega)))) | (refine (Hp.at_push_lt ?_).trans ?_; (· (first | assumption | omega | (simp; done) | (simp; omega)))) | (refine (Hp.at_kill_ne ?_).trans ?_; (· (first | assumption | (exact Ne.symm (by assumption)) | omega | (simp; done) | (simp; omega)))) | (refine (HExt.eq (by assumption) _ ?_ ?_).trans ?_; (· (first | assumption | omega | (simp; done) | (simp; omega))); (· (first | (intro h; cases h; done) | (simp; done) | (simp; omega)))))); (first | assumption | exact Hp.at_push_eq | (refine Hp.at_push_id ?_; (· (first | rfl | assumption | omega | (simp; done) | (simp; omega)))) | (refine Hp.at_put_eq ?_; (· (first | assumption | omega | (simp; done) | (simp; omega)))) | (refine Hp.at_put_id ?_ ?_; (· (first | rfl | assumption | omega | (simp; done) | (simp; omega))); (· (first | assumption | omega | (simp; done) | (simp; omega))))))
        · ((repeat (first | (refine (killO_ne ?_).trans ?_; (· (intro hq; first | (have := lt_io _ hq; first | omega | (simp; omega)) | (have := lt_ig _ hq; first | omega | (simp; omega))))) | (refine (Hp.at_put_ne ?_).trans ?_; (· (first | assumption | (exact Ne.symm (by assumption)) | omega | (simp; done) | (simp; omega)))) | (refine (Hp.at_push_lt ?_).trans ?_; (· (first | assumption | omega | (simp; done) | (simp; omega)))) | (refine (Hp.at_kill_ne ?_).trans ?_; (· (first | assumption | (exact Ne.symm (by assumption)) | omega | (simp; done) | (simp; omega)))) | (refine (HExt.eq (by assumption) _ ?_ ?_).trans ?_; (· (first | assumption | omega | (simp; done) | (simp; omega))); (· (first | (intro h; cases h; done) | (simp; done) | (simp; omega)))))); (first | assumption | exact Hp.at_push_eq | (refine Hp.at_push_id ?_; (· (first | rfl | assumption | omega | (simp; done) | (simp; omega)))) | (refine Hp.at_put_eq ?_; (· (first | assumption | omega | (simp; done) | (simp; omega)))) | (refine Hp.at_put_id ?_ ?_; (· (first | rfl | assumption | omega | (simp; done) | (simp; omega))); (· (first | assumption | omega | (simp; done) | (simp; omega))))))
        · ((repeat (first | (refine (killO_ne ?_).trans ?_; (· (intro hq; first | (have := lt_io _ hq; first | omega | (simp; omega)) | (have := lt_ig _ hq; first | omega | (simp; omega))))) | (refine (Hp.at_put_ne ?_).trans ?_; (· (first | assumption | (exact Ne.symm (by assumption)) | omega | (simp; done) | (simp; omega)))) | (refine (Hp.at_push_lt ?_).trans ?_; (· (first | assumption | omega | (simp; done) | (simp; omega)))) | (refine (Hp.at_kill_ne ?_).trans ?_; (· (first | assumption | (exact Ne.symm (by assumption)) | omega | (simp; done) | (simp; omega)))) | (refine (HExt.eq (by assumption) _ ?_ ?_).trans ?_; (· (first | assumption | omega | (simp; done) | (simp; omega))); (· (first | (intro h; cases h; done) | (simp; done) | (simp; omega)))))); (first | assumption | exact Hp.at_push_eq | (refine Hp.at_push_id ?_; (· (first | rfl | assumption | omega | (simp; done) | (simp; omega)))) | (refine Hp.at_put_eq ?_; (· (first | assumption | omega | (simp; done) | (simp; omega)))) | (refine Hp.at_put_id ?_ ?_; (· (first | rfl | assumption | omega | (simp; done) | (simp; omega))); (· (first | assumption | omega | (simp; done) | (simp; omega))))))
      rintro k H' ⟨hk, ⟨M, hM, hown⟩, h4, h6, hbr⟩
      have hlo := Hp.at_lt hown
      have hl4 := Hp.at_lt h4
      have hl6 := Hp.at_lt h6
      by_cases hkn : k < L.length
      · focus
          refine GWP.seq ?_
          refine GWP.region ?_
          refine GOps.r rfl rfl rfl rfl (grd_lss rfl rfl rfl) ?_
          refine GOps.nil ?_
          refine GWP.seq ?_
          refine GWP.cond_t rfl ?_ ?_
          · exact decide_eq_true (by omega)
          refine GWP.skip ?_
          refine GWP.seq ?_
          refine GWP.block ?_
          refine GWP.seq ?_
          refine GWP.region ?_
          refine GOps.r rfl rfl rfl rfl (grd_move rfl rfl) ?_
          refine GOps.r rfl rfl rfl rfl (grd_assign rfl rfl) ?_
          refine GOps.nil ?_
          refine GWP.region ?_
          refine GOps.r rfl rfl rfl rfl (grd_move rfl rfl) ?_
          refine GOps.r rfl rfl rfl rfl (grd_move rfl rfl) ?_
          refine GOps.r rfl rfl rfl rfl (grd_indexAddr1 tab_is rfl rfl rfl rfl rfl ?_) ?_
          · omega
          focus
            refine GOps.r rfl rfl rfl rfl (grd_load1 (b := ?_) (v := ?_) tab_is rfl rfl rfl rfl ?_ ?_) ?_
            rotate_left 2
            · assumption
            · refine vb_get _ _ ?_; omega
          refine GOps.r rfl rfl rfl rfl (grd_bits .xor (.inr (.inr (.inl rfl))) rfl rfl rfl) ?_
          refine GOps.r rfl rfl rfl rfl (grd_indexAddr1 tab_is rfl rfl rfl rfl rfl ?_) ?_
          · omega
          focus
            refine GOps.s rfl rfl rfl (gop_store1 (b := ?_) tab_is rfl rfl rfl rfl rfl rfl ?_ ?_ ?_ ?_) ?_
            rotate_left 1
            · assumption
            · rfl
            · simp; omega
            · exact .inr (by simp)
          refine GOps.nil ?_
          refine GWP.region ?_
          refine GOps.r rfl rfl rfl rfl (grd_add64 rfl rfl rfl ?_) ?_
          · omega
          refine GOps.r rfl rfl rfl rfl (grd_move rfl rfl) ?_
          refine GOps.nil ?_
        refine ⟨k + 1, ?_, ⟨by omega, ?_, (Hp.at_put_ne (by omega)).trans h4, (Hp.at_put_ne (by omega)).trans h6, bs_far hbr ‹∀ a, ph8 = some a → a.block ≠ H.length + 1›⟩, by omega⟩
        ·
          repeat (first | exact Env.sub_nil | refine Env.sub_cons rfl ?_ | (refine Env.sub_cons (congrArg some ?_) ?_; (· first | rfl | go_num | (simp; done))))
        · obtain ⟨M', h1, h2⟩ := xor_step hlo
          exact ⟨M', h1.trans hM, h2⟩
      · focus
          refine GWP.seq ?_
          refine GWP.region ?_
          refine GOps.r rfl rfl rfl rfl (grd_lss rfl rfl rfl) ?_
          refine GOps.nil ?_
          refine GWP.seq ?_
          refine GWP.cond_f rfl ?_ ?_
          · exact decide_eq_false (by omega)
          refine GWP.exit ?_
          refine GWP.seq ?_
          refine GWP.draw [.reads [0, 1, 2, 3, 4, 6], .write 5, .reads [7, 8, 9]] false [List.length Hxh14, List.length Hxh16] (by kernel_rfl) (by kernel_rfl) (by kernel_rfl) (by kernel_rfl) ?_ ?_
          · simp; omega
          refine GPcs.reads (by simp only [List.filterMap_cons, List.filterMap_nil, List.getElem?_toArray, List.getElem?_cons_succ, List.getElem?_cons_zero]; rfl) ?_
          refine GQ.r rfl rfl rfl rfl (grd_move rfl rfl) ?_ ?_
          · refine .inr ?_; simp
          refine GQ.r rfl rfl rfl rfl (grd_move rfl rfl) ?_ ?_
          · refine .inr ?_; simp
          refine GQ.r rfl rfl rfl rfl (grd_eql rfl rfl rfl) ?_ ?_
          · refine .inr ?_; simp
          refine GQ.r rfl rfl rfl rfl (grd_move rfl rfl) ?_ ?_
          · refine .inr ?_; simp
          refine GQ.take rfl rfl ?_ ?_
          · simp; done
          focus
            refine GQ.r rfl rfl rfl rfl (grd_loadNK (b := ?_) (cs := ?_) tab_is rfl rfl rfl rfl ?_ ?_ ?_) ?_ ?_
            rotate_left 2
            · assumption
            · exact Nat.le_of_ble_eq_true rfl
            · simp [Value.cells]; rfl
            · refine .inr ?_; simp
          refine GQ.take rfl rfl ?_ ?_
          · simp; done
          focus
            refine GQ.r rfl rfl rfl rfl (grd_loadNK (b := ?_) (cs := ?_) tab_is rfl rfl rfl rfl ?_ ?_ ?_) ?_ ?_
            rotate_left 2
            · assumption
            · exact Nat.le_of_ble_eq_true rfl
            · simp [Value.cells]; rfl
            · refine .inr ?_; simp
          refine GQ.nil ?_
          refine GPcs.write true [List.length Hxh14, List.length Hxh16] rfl rfl ?_ rfl rfl (gopf_call rfl Try.call13 rfl ?_ (g_rplain _ r _ _ _ ?_)) rfl ?_ ?_ ?_ ?_
          · simp; done
          · intro _ h; cases h; done
          · assumption
          · intro _ h; cases h; done
          focus
            refine List.forall_mem_cons.2 ⟨⟨⟨?_, ?_⟩, ?_⟩, ?_⟩
            rotate_left 1
            · assumption
            · intro h; cases h; done
            focus
              refine List.forall_mem_cons.2 ⟨⟨⟨?_, ?_⟩, ?_⟩, ?_⟩
              rotate_left 1
              · assumption
              · intro h; cases h; done
              · intro _ h; cases h; done
          · simp; done
          rintro _ Hxj1 ⟨rfl, xj1⟩
          have xj1l := HExt.len xj1; try simp at xj1l
          refine ⟨?_, ?_⟩
          · simp; omega
          refine GPcs.reads (by simp only [List.filterMap_cons, List.filterMap_nil, List.getElem?_toArray, List.getElem?_cons_succ, List.getElem?_cons_zero]; rfl) ?_
          refine GQ.take rfl rfl ?_ ?_
          · simp; done
          focus
            refine GQ.r rfl rfl rfl rfl (grd_aeqlK (b := ?_) tab_is rfl rfl rfl rfl rfl rfl ?_ ?_ ?_) ?_ ?_
            rotate_left 1
            · rfl
            · rfl
            · simp [lEq, cEq]; rfl
            · exact .inl rfl
          refine GQ.r rfl rfl rfl rfl (grd_pick_t rfl rfl ?_ rfl) ?_ ?_
          · exact decide_eq_true (by omega)
          · exact .inl rfl
          refine GQ.r rfl rfl rfl rfl (grd_assign rfl rfl) ?_ ?_
          · exact .inl rfl
          refine GQ.nil ?_
          refine GPcs.nil ?_
          refine GWP.ret ?_
          refine ⟨_, .one rfl, ?_⟩
          · rfl
theorem recordReads_walk (A : Option Addr) (n c : Nat) (l : List UInt8) (hl : l.length = c) (hn : n ≤ c) (hm : c ≤ maxLen) (hA : A = none → n = 0 ∧ c = 0) (W : World) (hr : Rd W W.heap.size A (vb l)) (h0 : ∃ (g : Nat) (rs : Array Value) (t : TypeId) (fz : Nat × Nat), W.heap[g]? = some (Obj.cells rs t fz)) :
    Calls Try.prog 5 #[.slice A n c] W fun e w' => e = .returned (.bool true) ∧ Below W.heap.size W w' := by
  obtain ⟨μ1, H1, p1, s1, ro1, x1, k1, b1, v1⟩ := (SimH.nothing W).bytes Ro.nil h0 hn hm hA hr hl
  refine ((g_recordReads H1 p1 n c _ b1).enter s1 (.cons v1 .nil) (R := fun u => u = .bool true) (fun v hv => by rw [hv]; rfl)).mono ?_
  rintro e w' ⟨v, rfl, rfl, q⟩
  exact ⟨rfl, q⟩
end Go.Proofs.Ytjlimdiimdihfaa
