/- Blocks of a segment: sealed bytes opened, by the program and by the document. -/
import Derived.Test.YtjlimdiimdihfaaVg
import Derived.Test.YtjlimdiimdihfaaCw
namespace Go.Proofs.Ytjlimdiimdihfaa
open Go.RowKit

theorem vrs_one {μ : Ren} {v : Value} {rargs : Array Value} (h : VRs μ [v] rargs.toList) : ∃ rv, rargs = #[rv] ∧ VR μ v rv := by
  cases rargs with
  | mk l =>
    simp only at h
    cases h with
    | cons h1 h2 =>
      cases h2
      exact ⟨_, rfl, h1⟩
set_option maxHeartbeats 4000000 in
set_option maxRecDepth 100000 in
set_option linter.unusedSimpArgs false in
theorem g_copen (H : Hp) (p : Option Addr) (n c : Nat) (L : List UInt8) (hb : BS H (.slice p n c) L) (hn : n ≤ 35184372088832) : GCalls Try.prog 23 [.slice p n c] [] H fun v H' => (∃ p' n' c', v = .tuple #[.slice p' n' c', .bool (openL L).isSome] ∧ BS H' (.slice p' n' c') ((openL L).getD [])) ∧ HExt [] H H' := fun μ w rargs hs hv => by
  obtain ⟨rv, rfl, hv2⟩ := vrs_one hv
  obtain ⟨A, c', rfl, q1, q2, q3, q4, q5⟩ := bs_real hb hs hv2
  refine (copen_any A n c' L w q1 q2 q3 q4 q5 hn).mono ?_
  rintro e w' ⟨v, rfl, k1, k2, k3⟩
  cases ho : openL L with
  | none =>
    obtain rfl := k1 ho
    exact ⟨.tuple #[.slice none 0 0, .bool false], _, H, μ, rfl, ⟨⟨none, 0, 0, rfl, .none⟩, HExt.refl _ _⟩, .tuple (.cons .sl0 (.cons (.bool _) .nil)), hs.below k3, Ext'.refl μ, Frm.of_below k3 _, fun i M hi hM => by have := (hs.len i M hM).1; omega, Nat.le_refl _, fun _ _ _ h => h⟩
  | some b =>
    obtain ⟨μ', H', p', c2, g1, g2, g3, g4, g5, g6, g7⟩ := hs.ownB k3 (k2 b ho)
    exact ⟨.tuple #[.slice p' b.length c2, .bool true], _, H', μ', rfl, ⟨⟨p', _, c2, rfl, g4⟩, g3⟩, .tuple (.cons g5 (.cons (.bool _) .nil)), g1, g2, Frm.of_below k3 _, fun i M hi hM => .inr (g6 i M hi hM), g3.len, g7⟩
set_option maxHeartbeats 4000000 in
set_option maxRecDepth 100000 in
set_option linter.unusedSimpArgs false in
theorem g_rseal (H : Hp) (p : Option Addr) (n c : Nat) (L : List UInt8) (hb : BS H (.slice p n c) L) (hn : n ≤ 35184372088832) : GCalls Try.prog 38 [.slice p n c] [] H (fun v H' => v = .slice (some ⟨H.length, 0, none⟩) (n + 4) capU ∧ H' = H.push ⟨5, 1, vb (sealL L), true⟩) :=
  GCalls.own1 hb (by omega) fun A c' w h1 _ _ _ h5 => rseal_any A n c' L w h1 h5 hn
set_option maxHeartbeats 4000000 in
set_option maxRecDepth 100000 in
set_option linter.unusedSimpArgs false in
theorem g_rseal2 (H : Hp) (p : Option Addr) (n c : Nat) (L : List UInt8) (hb : BS H (.slice p n c) L) (hn : n ≤ 35184372088832) : GCalls Try.prog 38 [.slice p n c] [] H (fun v H' => ∃ p' c', v = .slice p' (n + 4) c' ∧ BS H' (.slice p' (n + 4) c') (sealL L) ∧ HExt [] H H') :=
  (g_rseal H p n c L hb hn).mono fun v H' ⟨e1, e2⟩ => by
    subst e1 e2
    exact ⟨_, _, rfl, bs_push rfl (by rw [sealL_length, hb.len]), (HExt.refl _ _).push⟩
theorem open_none {L : List UInt8} (h : (L.length : Int) < 4) : openL L = none := if_neg fun e => by omega
set_option maxHeartbeats 4000000 in
set_option maxRecDepth 100000 in
set_option linter.unusedSimpArgs false in
theorem g_ropen (H : Hp) (p : Option Addr) (n c : Nat) (L : List UInt8) (hb : BS H (.slice p n c) L) (hn : n ≤ 35184372088832) : GCalls Try.prog 26 [.slice p n c] [] H fun v H' => (∃ p' n' c', v = .tuple #[.slice p' n' c', .bool (openL L).isSome] ∧ BS H' (.slice p' n' c') ((openL L).getD [])) ∧ HExt [] H H' := by
  have hln := hb.len
  have hbs := hb
  cases hb with
  | none =>
    have ho : openL [] = none := open_none (by simp)
    rw [ho]
    refine GCalls.body tab_is Try.func26 rfl Try.results26 Try.ntmps26 (by simp) ?_ ?_
    · first | (intro _ h; cases h; done) | (simp; done) | (simp; omega) | (intro i hi; simp at hi; rcases hi with rfl | rfl <;> omega) | (intro i hi; simp at hi; rcases hi with rfl | rfl | rfl <;> omega)
    focus
      refine GWP.seq ?_
      refine GWP.region ?_
      refine GOps.r rfl rfl rfl rfl (grd_assign rfl rfl) ?_
      refine GOps.r rfl rfl rfl rfl (grd_assign rfl rfl) ?_
      refine GOps.nil ?_
      refine GWP.seq ?_
      refine GWP.seq ?_
      refine GWP.draw [.reads [0, 1, 2, 3, 4, 5, 11, 6, 12, 7, 8], .write 9, .reads [10, 13, 14]] false [] (by kernel_rfl) (by kernel_rfl) (by kernel_rfl) (by kernel_rfl) ?_ ?_
      · intro _ h; cases h; done
      refine GPcs.reads (by simp only [List.filterMap_cons, List.filterMap_nil, List.getElem?_toArray, List.getElem?_cons_succ, List.getElem?_cons_zero]; rfl) ?_
      refine GQ.r rfl rfl rfl rfl (grd_move rfl rfl) ?_ ?_
      · refine .inr ?_; simp
      refine GQ.r rfl rfl rfl rfl (grd_len tab_is rfl rfl rfl rfl rfl) ?_ ?_
      · refine .inr ?_; simp
      refine GQ.r rfl rfl rfl rfl (grd_lss rfl rfl rfl) ?_ ?_
      · refine .inr ?_; simp
      refine GQ.r rfl rfl rfl rfl (grd_move rfl rfl) ?_ ?_
      · refine .inr ?_; simp
      refine GQ.no rfl ?_ rfl rfl ?_
      · simp; done
      refine GQ.no rfl ?_ rfl rfl ?_
      · simp; done
      refine GQ.no rfl ?_ rfl rfl ?_
      · simp; done
      refine GQ.no rfl ?_ rfl rfl ?_
      · simp; done
      refine GQ.no rfl ?_ rfl rfl ?_
      · simp; done
      refine GQ.no rfl ?_ rfl rfl ?_
      · simp; done
      refine GQ.no rfl ?_ rfl rfl ?_
      · simp; done
      refine GQ.nil ?_
      refine GPcs.no rfl rfl ?_ rfl rfl ?_
      · simp; done
      refine GPcs.reads (by simp only [List.filterMap_cons, List.filterMap_nil, List.getElem?_toArray, List.getElem?_cons_succ, List.getElem?_cons_zero]; rfl) ?_
      refine GQ.no rfl ?_ rfl rfl ?_
      · simp; done
      refine GQ.no rfl ?_ rfl rfl ?_
      · simp; done
      refine GQ.r rfl rfl rfl rfl (grd_pick_t rfl rfl ?_ rfl) ?_ ?_
      · exact decide_eq_true (by omega)
      · refine .inr ?_; simp
      refine GQ.nil ?_
      refine GPcs.nil ?_
      refine GWP.cond_t rfl ?_ ?_
      · with_reducible rfl
      refine GWP.seq ?_
      refine GWP.region ?_
      refine GOps.r rfl rfl rfl rfl (grd_assign rfl rfl) ?_
      refine GOps.r rfl rfl rfl rfl (grd_assign rfl rfl) ?_
      refine GOps.nil ?_
      refine GWP.ret ?_
      refine ⟨_, .two (.one rfl) (.one rfl), ?_⟩
      refine ⟨?_, ?_⟩
      · exact ⟨_, _, _, rfl, .none⟩
      · exact HExt.refl _ _
  | some hb hs hl hof =>
    rename_i j off t2 rw2 cs2
    have hlt := Hp.at_lt hb
    refine GCalls.body tab_is Try.func26 rfl Try.results26 Try.ntmps26 (by simp) ?_ ?_
    · first | (intro _ h; cases h; done) | (simp; done) | (simp; omega) | (intro i hi; simp at hi; rcases hi with rfl | rfl <;> omega) | (intro i hi; simp at hi; rcases hi with rfl | rfl | rfl <;> omega)
    focus
      refine GWP.seq ?_
      refine GWP.region ?_
      refine GOps.r rfl rfl rfl rfl (grd_assign rfl rfl) ?_
      refine GOps.r rfl rfl rfl rfl (grd_assign rfl rfl) ?_
      refine GOps.nil ?_
      refine GWP.seq ?_
      refine GWP.seq ?_
      refine GWP.draw [.reads [0, 1, 2, 3, 4, 5, 11, 6, 12, 7, 8], .write 9, .reads [10, 13, 14]] false [j] (by kernel_rfl) (by kernel_rfl) (by kernel_rfl) (by kernel_rfl) ?_ ?_
      · simp; omega
      refine GPcs.reads (by simp only [List.filterMap_cons, List.filterMap_nil, List.getElem?_toArray, List.getElem?_cons_succ, List.getElem?_cons_zero]; rfl) ?_
      refine GQ.r rfl rfl rfl rfl (grd_move rfl rfl) ?_ ?_
      · refine .inr ?_; simp
      refine GQ.r rfl rfl rfl rfl (grd_len tab_is rfl rfl rfl rfl rfl) ?_ ?_
      · refine .inr ?_; simp
      refine GQ.r rfl rfl rfl rfl (grd_lss rfl rfl rfl) ?_ ?_
      · refine .inr ?_; simp
      refine GQ.r rfl rfl rfl rfl (grd_move rfl rfl) ?_ ?_
      · refine .inr ?_; simp
      refine GQ.split rfl rfl (fun b1 => ?_) (fun b1 => ?_)
      simp only [beq_true, beq_false, Bool.not_true, Bool.not_false, Bool.not_eq_true', Bool.not_eq_false', decide_eq_true_eq, decide_eq_false_iff_not] at b1
      refine GQ.take rfl rfl ?_ ?_
      · simp; omega
      refine GQ.r rfl rfl rfl rfl (grd_move rfl rfl) ?_ ?_
      · refine .inr ?_; simp
      refine GQ.take rfl rfl ?_ ?_
      · simp; omega
      refine GQ.r rfl rfl rfl rfl (grd_move rfl rfl) ?_ ?_
      · refine .inr ?_; simp
      refine GQ.take rfl rfl ?_ ?_
      · simp; omega
      refine GQ.r rfl rfl rfl rfl (grd_move rfl rfl) ?_ ?_
      · refine .inr ?_; simp
      refine GQ.take rfl rfl ?_ ?_
      · simp; omega
      refine GQ.r rfl rfl rfl rfl (grd_len tab_is rfl rfl rfl rfl rfl) ?_ ?_
      · refine .inr ?_; simp
      refine GQ.take rfl rfl ?_ ?_
      · simp; omega
      focus
        refine GQ.r rfl rfl rfl rfl (grd_str (b := ?_) (l := ?_) tab_is rfl rfl rfl rfl rfl rfl rfl rfl ?_ ?_ ?_) ?_ ?_
        rotate_left 2
        · assumption
        · assumption
        · assumption
        · refine .inr ?_; simp
      refine GQ.take rfl rfl ?_ ?_
      · simp; omega
      refine GQ.r rfl rfl rfl rfl (grd_sub64 rfl rfl rfl ?_) ?_ ?_
      · omega
      · refine .inr ?_; simp
      refine GQ.take rfl rfl ?_ ?_
      · simp; omega
      focus
        refine GQ.r rfl rfl rfl rfl (grd_slL (l := ?_) (h := ?_) (o2 := ?_) (m2 := ?_) (b := ?_) tab_is rfl rfl rfl rfl ?_ ?_ ?_ ?_ ?_ ?_ ?_ ?_) ?_ ?_
        rotate_left 5
        · assumption
        · rfl
        · exact rfl
        · refine gbound_tmp rfl ?_; refine Eq.trans (Int.toNat_of_nonneg ?_).symm ?_; rotate_left 1; rfl; omega
        · omega
        · omega
        · simp; rfl
        · simp; rfl
        · refine .inr ?_; simp
      refine GQ.nil ?_
      focus
        refine GPcs.write true [j] rfl rfl ?_ rfl rfl (gopf_call rfl Try.call38 rfl ?_ (g_rseal2 _ _ _ _ ?_ ?_ ?_)) rfl ?_ ?_ ?_ ?_
        · simp; omega
        · intro _ h; cases h; done
        rotate_left 1
        · refine bs_subE (l := 0) (by assumption) rfl (by omega) ?_; rfl
        · omega
        · intro _ h; cases h; done
        focus
          refine List.forall_mem_cons.2 ⟨⟨⟨?_, ?_⟩, ?_⟩, ?_⟩
          rotate_left 1
          · assumption
          · intro h; cases h; done
          · intro _ h; cases h; done
        · simp; done
      rintro _ _ ⟨pb2, cb3, rfl, sb4, xb5⟩
      have xb5l := HExt.len xb5; try simp at xb5l
      refine ⟨?_, ?_⟩
      · simp; omega
      refine GPcs.reads (by simp only [List.filterMap_cons, List.filterMap_nil, List.getElem?_toArray, List.getElem?_cons_succ, List.getElem?_cons_zero]; rfl) ?_
      refine GQ.take rfl rfl ?_ ?_
      · simp; omega
      focus
        refine GQ.re rfl rfl rfl rfl (grd_strBS (L := ?_) tab_is rfl rfl rfl rfl rfl rfl rfl rfl ?_) rfl ?_
        rotate_left 1
        · assumption
      refine GQ.take rfl rfl ?_ ?_
      · simp; omega
      refine GQ.r rfl rfl rfl rfl (grd_sneq' rfl rfl rfl) ?_ ?_
      · exact .inl rfl
      refine GQ.r rfl rfl rfl rfl (grd_pick_f rfl rfl ?_ rfl) ?_ ?_
      · exact decide_eq_false (by assumption)
      · exact .inl rfl
      refine GQ.nil ?_
      refine GPcs.nil ?_
      refine GWP.cond rfl (fun b6 => ?_) (fun b6 => ?_)
      simp only [beq_true, beq_false, Bool.not_true, Bool.not_false, Bool.not_eq_true', Bool.not_eq_false', decide_eq_true_eq, decide_eq_false_iff_not] at b6
      refine GWP.seq ?_
      refine GWP.region ?_
      refine GOps.r rfl rfl rfl rfl (grd_assign rfl rfl) ?_
      refine GOps.r rfl rfl rfl rfl (grd_assign rfl rfl) ?_
      refine GOps.nil ?_
      refine GWP.ret ?_
      refine ⟨_, .two (.one rfl) (.one rfl), ?_⟩
      refine ⟨?_, ?_⟩
      rotate_left 1
      · assumption
      simp only [beq_true, beq_false, Bool.not_true, Bool.not_false, Bool.not_eq_true', Bool.not_eq_false', decide_eq_true_eq, decide_eq_false_iff_not] at b6
      refine GWP.skip ?_
      refine GWP.seq ?_
      refine GWP.region ?_
      refine GOps.r rfl rfl rfl rfl (grd_move rfl rfl) ?_
      refine GOps.r rfl rfl rfl rfl (grd_move rfl rfl) ?_
      refine GOps.r rfl rfl rfl rfl (grd_len tab_is rfl rfl rfl rfl rfl) ?_
      refine GOps.r rfl rfl rfl rfl (grd_sub64 rfl rfl rfl ?_) ?_
      · omega
      focus
        refine GOps.r rfl rfl rfl rfl (grd_slL (l := ?_) (h := ?_) (o2 := ?_) (m2 := ?_) (b := ?_) tab_is rfl rfl rfl rfl ?_ ?_ ?_ ?_ ?_ ?_ ?_ ?_) ?_
        rotate_left 5
        refine (HExt.eq (by assumption) _ ?_ ?_).trans ?_
        · omega
        · intro h; cases h; done
        · assumption
        · rfl
        · exact rfl
        · refine gbound_tmp rfl ?_; refine Eq.trans (Int.toNat_of_nonneg ?_).symm ?_; rotate_left 1; rfl; omega
        · omega
        · omega
        · simp; rfl
        · simp; rfl
      refine GOps.r rfl rfl rfl rfl (grd_assign rfl rfl) ?_
      refine GOps.r rfl rfl rfl rfl (grd_assign rfl rfl) ?_
      refine GOps.nil ?_
      refine GWP.ret ?_
      refine ⟨_, .two (.one rfl) (.one rfl), ?_⟩
      refine ⟨?_, ?_⟩
      rotate_left 1
      · assumption
      simp only [beq_true, beq_false, Bool.not_true, Bool.not_false, Bool.not_eq_true', Bool.not_eq_false', decide_eq_true_eq, decide_eq_false_iff_not] at b1
      refine GQ.no rfl ?_ rfl rfl ?_
      · simp; omega
      refine GQ.no rfl ?_ rfl rfl ?_
      · simp; omega
      refine GQ.no rfl ?_ rfl rfl ?_
      · simp; omega
      refine GQ.no rfl ?_ rfl rfl ?_
      · simp; omega
      refine GQ.no rfl ?_ rfl rfl ?_
      · simp; omega
      refine GQ.no rfl ?_ rfl rfl ?_
      · simp; omega
      refine GQ.no rfl ?_ rfl rfl ?_
      · simp; omega
      refine GQ.nil ?_
      refine GPcs.no rfl rfl ?_ rfl rfl ?_
      · simp; omega
      refine GPcs.reads (by simp only [List.filterMap_cons, List.filterMap_nil, List.getElem?_toArray, List.getElem?_cons_succ, List.getElem?_cons_zero]; rfl) ?_
      refine GQ.no rfl ?_ rfl rfl ?_
      · simp; omega
      refine GQ.no rfl ?_ rfl rfl ?_
      · simp; omega
      refine GQ.r rfl rfl rfl rfl (grd_pick_t rfl rfl ?_ rfl) ?_ ?_
      · exact decide_eq_true (by assumption)
      · refine .inr ?_; simp
      refine GQ.nil ?_
      refine GPcs.nil ?_
      refine GWP.cond_t rfl ?_ ?_
      · with_reducible rfl
      refine GWP.seq ?_
      refine GWP.region ?_
      refine GOps.r rfl rfl rfl rfl (grd_assign rfl rfl) ?_
      refine GOps.r rfl rfl rfl rfl (grd_assign rfl rfl) ?_
      refine GOps.nil ?_
      refine GWP.ret ?_
      refine ⟨_, .two (.one rfl) (.one rfl), ?_⟩
      refine ⟨?_, ?_⟩
      · exact ⟨none, 0, 0, by rw [open_none (by omega)]; rfl, by rw [open_none (by omega)]; exact .none⟩
      · exact HExt.refl _ _
    · have ht : ((n : Int) - 4).toNat = L.length - 4 := by omega
      rw [ht, List.drop_zero] at b6
      have ho : openL L = none := if_neg fun e => b6 e.2
      rw [ho]
      exact ⟨_, _, _, rfl, .none⟩
    · have ht : ((n : Int) - 4).toNat = L.length - 4 := by omega
      rw [ht, List.drop_zero] at b6
      have ho : openL L = some (L.take (L.length - 4)) := if_pos ⟨by omega, Classical.not_not.1 b6⟩
      rw [ho, ht]
      exact ⟨_, _, _, rfl, bs_subE (l := 0) (hbs.ext xb5) rfl (by omega) rfl⟩
end Go.Proofs.Ytjlimdiimdihfaa
