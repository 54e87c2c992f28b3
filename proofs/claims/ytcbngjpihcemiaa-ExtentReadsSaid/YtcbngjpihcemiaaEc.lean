/- Runs out of bytes: the document's. -/
import Derived.Test.YtcbngjpihcemiaaEb
namespace Go.Proofs.Ytcbngjpihcemiaa
open Go.RowKit

set_option maxHeartbeats 4000000 in
set_option maxRecDepth 100000 in
set_option linter.unusedSimpArgs false in
theorem g_rnumE (s : RdS) (m : Nat) (r : Nat × RdS) (h : s.number m = r) (mi : Int) (hm : mi = (m : Int)) (H : Hp) (g : Nat) (p : Option Addr) (c : Nat) (hr : RG 119 H g p c s) : GCalls Try.prog 126 [.pointer (some ⟨g, 0, none⟩), .int .u64 mi] [g] H fun v H' => v = .int .u64 (r.1 : Int) ∧ (∃ p' c', RG 119 H' g p' c' r.2) ∧ BSk H H' ∧ HExt [g] H H' := by
  subst h hm
  exact g_rnumber H g p c s (m : Int) (by omega) hr
set_option maxHeartbeats 4000000 in
set_option maxRecDepth 100000 in
set_option linter.unusedSimpArgs false in
theorem g_bound (H : Hp) (x : Int) (m : Nat) (hm : (m : Int) = max x 0) (hx : -1000000 < x ∧ x < 1000000) : GCalls Try.prog 127 [.int .i64 x] [] H fun v H' => v = .int .u64 (m : Int) ∧ H' = H := by
  rw [hm]
  by_cases h : x < 0
  · rw [show max x 0 = 0 by omega]
    refine GCalls.body tab_is Try.func127 rfl Try.results127 Try.ntmps127 (by simp) ?_ ?_
    · first | (intro _ h; cases h; done) | (simp; done) | (simp; omega) | (intro i hi; simp at hi; rcases hi with rfl | rfl <;> omega) | (intro i hi; simp at hi; rcases hi with rfl | rfl | rfl <;> omega)
    focus
      refine GWP.seq ?_
      refine GWP.region ?_
      refine GOps.r rfl rfl rfl rfl (grd_assign rfl rfl) ?_
      refine GOps.nil ?_
      refine GWP.seq ?_
      refine GWP.seq ?_
      refine GWP.region ?_
      refine GOps.r rfl rfl rfl rfl (grd_move rfl rfl) ?_
      refine GOps.r rfl rfl rfl rfl (grd_lss rfl rfl rfl) ?_
      refine GOps.nil ?_
      refine GWP.cond_t rfl ?_ ?_
      · exact decide_eq_true (by assumption)
      refine GWP.seq ?_
      refine GWP.region ?_
      refine GOps.r rfl rfl rfl rfl (grd_assign rfl rfl) ?_
      refine GOps.nil ?_
      refine GWP.ret ?_
      refine ⟨_, .one rfl, ?_⟩
      refine ⟨?_, ?_⟩
      · rfl
      · rfl
  · rw [show max x 0 = x by omega]
    refine GCalls.body tab_is Try.func127 rfl Try.results127 Try.ntmps127 (by simp) ?_ ?_
    · first | (intro _ h; cases h; done) | (simp; done) | (simp; omega) | (intro i hi; simp at hi; rcases hi with rfl | rfl <;> omega) | (intro i hi; simp at hi; rcases hi with rfl | rfl | rfl <;> omega)
    focus
      refine GWP.seq ?_
      refine GWP.region ?_
      refine GOps.r rfl rfl rfl rfl (grd_assign rfl rfl) ?_
      refine GOps.nil ?_
      refine GWP.seq ?_
      refine GWP.seq ?_
      refine GWP.region ?_
      refine GOps.r rfl rfl rfl rfl (grd_move rfl rfl) ?_
      refine GOps.r rfl rfl rfl rfl (grd_lss rfl rfl rfl) ?_
      refine GOps.nil ?_
      refine GWP.cond_f rfl ?_ ?_
      · exact decide_eq_false (by assumption)
      refine GWP.skip ?_
      refine GWP.seq ?_
      refine GWP.region ?_
      refine GOps.r rfl rfl rfl rfl (grd_move rfl rfl) ?_
      refine GOps.r rfl rfl rfl rfl (grd_conv_in tab_is rfl rfl rfl rfl rfl ?_) ?_
      · refine wrap_u64_in ?_; omega
      refine GOps.r rfl rfl rfl rfl (grd_assign rfl rfl) ?_
      refine GOps.nil ?_
      refine GWP.ret ?_
      refine ⟨_, .one rfl, ?_⟩
      refine ⟨?_, ?_⟩
      · rfl
      · rfl
set_option maxHeartbeats 4000000 in
set_option maxRecDepth 100000 in
set_option linter.unusedSimpArgs false in
theorem g_rruns (H : Hp) (g : Nat) (p : Option Addr) (c : Nat) (s : RdS) (hr : RG 119 H g p c s) (k : Int) (K : Nat) (hK : K = k.toNat) (hk : -100000 < k ∧ k < 100000) (r0 : Nat × RdS) (h0 : s.number K = r0) (R : Nat × List (Nat × Nat)) (hR : runsO K r0.1 r0.2 0 [] = R) :
    GCalls Try.prog 64 [.pointer (some ⟨g, 0, none⟩), .int .i64 k] [g] H (runQ 122 [g] H R) := by
  have t0 := numE_le h0
  have hgl := Hp.at_lt hr.hg
  unfold runQ
  refine GCalls.body tab_is Try.func64 rfl Try.results64 Try.ntmps64 (by simp) ?_ ?_
  · first | (intro _ h; cases h; done) | (simp; done) | (simp; omega) | (intro i hi; simp at hi; rcases hi with rfl | rfl <;> omega) | (intro i hi; simp at hi; rcases hi with rfl | rfl | rfl <;> omega)
  focus
    refine GWP.seq ?_
    refine GWP.region ?_
    refine GOps.r rfl rfl rfl rfl (grd_assign rfl rfl) ?_
    refine GOps.r rfl rfl rfl rfl (grd_assign rfl rfl) ?_
    refine GOps.nil ?_
    refine GWP.seq ?_
    refine GWP.region ?_
    refine GOps.r rfl rfl rfl rfl (grd_assign rfl rfl) ?_
    refine GOps.nil ?_
    refine GWP.seq ?_
    refine GWP.region ?_
    refine GOps.r rfl rfl rfl rfl (grd_assign rfl rfl) ?_
    refine GOps.nil ?_
    refine GWP.seq ?_
    refine GWP.region ?_
    refine GOps.r rfl rfl rfl rfl (grd_move rfl rfl) ?_
    refine GOps.r rfl rfl rfl rfl (grd_move rfl rfl) ?_
    refine GOps.w1 rfl rfl rfl rfl (gop_call rfl Try.call127 rfl ?_ (g_bound _ _ K ?_ ?_)) ?_
    · intro _ h; cases h; done
    · omega
    · omega
    focus
      refine GOps.w rfl rfl rfl rfl (gop_call rfl Try.call126 rfl ?_ (g_rnumE _ _ _ h0 _ ?_ _ _ ?_ ?_ ?_)) ?_
      · simp [Ctx.may]; done
      · omega
      rotate_left 2
      · assumption
    rintro _ Hxc5 ⟨rfl, ⟨pc1, cc2, rc3⟩, kc4, xc5⟩
    have xc5l := HExt.len xc5; try simp at xc5l
    refine GOps.r rfl rfl rfl rfl (grd_conv_in tab_is rfl rfl rfl rfl rfl ?_) ?_
    · refine wrap_i64_in ?_; omega
    refine GOps.r rfl rfl rfl rfl (grd_assign rfl rfl) ?_
    refine GOps.nil ?_
    refine GWP.seq ?_
    refine GWP.seq ?_
    refine GWP.region ?_
    refine GOps.r rfl rfl rfl rfl (grd_assign rfl rfl) ?_
    refine GOps.nil ?_
    refine GWP.block ?_
  refine GWP.loop (α := Option Nat × List (Nat × Nat) × Nat × Nat) (fun x => [(0, .pointer (some ⟨g, 0, none⟩)), (1, .int .i64 k), (6, runS x.1 x.2.1.length), (7, .int .i64 (x.2.2.2 : Int)), (8, .int .i64 (r0.1 : Int)), (9, .int .i64 (x.2.1.length : Int))]) (fun x H' => ∃ s p c, RG 119 H' g p c s ∧ runsO K x.2.2.1 s x.2.2.2 x.2.1 = R ∧ runI 122 H H' x.1 x.2.1 ∧ HExt [g] H H' ∧ x.2.2.2 ≤ K ∧ x.2.1.length + x.2.2.1 = r0.1 ∧ (x.2.2.1 ≠ 0 → s.e = 0)) (fun x => x.2.2.1) (none, [], r0.1, 0) ?_ ⟨r0.2, _, _, rc3, hR, rfl, xc5, Nat.zero_le _, by simp only [List.length_nil]; omega, numE_s h0⟩ ?_
  ·
    repeat (first | exact Env.sub_nil | refine Env.sub_cons rfl ?_ | (refine Env.sub_cons (congrArg some ?_) ?_; (· first | rfl | go_num | (simp; done))))
  rintro ⟨o, acc, n, a⟩ H2 ⟨s, p, c, hr2, hR2, hI, hx, ha, hn, hs⟩
  simp only at hr2 hR2 hI hx ha hn hs ⊢
  have hxl := hx.len
  have hg2 := hr2.hg
  unfold rdBlk at hg2
  have hgl2 := Hp.at_lt hg2
  cases n with
  | zero =>
    rw [runsO] at hR2
    by_cases he : s.e ≠ 0
    · rw [if_pos he] at hR2
      subst hR2
      focus
        refine GWP.seq ?_
        refine GWP.seq ?_
        refine GWP.region ?_
        refine GOps.r rfl rfl rfl rfl (grd_move rfl rfl) ?_
        refine GOps.r rfl rfl rfl rfl (grd_move rfl rfl) ?_
        refine GOps.r rfl rfl rfl rfl (grd_lss rfl rfl rfl) ?_
        refine GOps.r rfl rfl rfl rfl (grd_move rfl rfl) ?_
        refine GOps.no rfl ?_ rfl rfl ?_
        · simp; omega
        refine GOps.no rfl ?_ rfl rfl ?_
        · simp; omega
        refine GOps.no rfl ?_ rfl rfl ?_
        · simp; omega
        refine GOps.no rfl ?_ rfl rfl ?_
        · simp; omega
        refine GOps.no rfl ?_ rfl rfl ?_
        · simp; omega
        refine GOps.r rfl rfl rfl rfl (grd_pick_f rfl rfl ?_ rfl) ?_
        · exact decide_eq_false (by omega)
        refine GOps.nil ?_
        refine GWP.cond_f rfl ?_ ?_
        · with_reducible rfl
        refine GWP.exit ?_
        refine GWP.seq ?_
        refine GWP.seq ?_
        refine GWP.region ?_
        refine GOps.r rfl rfl rfl rfl (grd_move rfl rfl) ?_
        refine GOps.r rfl rfl rfl rfl (grd_nil rfl rfl) ?_
        refine GOps.r rfl rfl rfl rfl (grd_fieldAddr tab_is rfl rfl rfl rfl rfl) ?_
        focus
          refine GOps.r rfl rfl rfl rfl (grd_load1 (b := ?_) (v := ?_) tab_is rfl rfl rfl rfl ?_ ?_) ?_
          rotate_left 2
          · assumption
          · rfl
        refine GOps.r rfl rfl rfl rfl (grd_neq rfl rfl rfl) ?_
        refine GOps.nil ?_
        refine GWP.cond_t rfl ?_ ?_
        · exact decide_eq_true (by omega)
        refine GWP.seq ?_
        refine GWP.drawR (by kernel_rfl) (by kernel_rfl) (by kernel_rfl) ?_
        refine GQ.r rfl rfl rfl rfl (grd_move rfl rfl) ?_ ?_
        · exact .inl rfl
        refine GQ.r rfl rfl rfl rfl (grd_nil rfl rfl) ?_ ?_
        · exact .inl rfl
        refine GQ.r rfl rfl rfl rfl (grd_fieldAddr tab_is rfl rfl rfl rfl rfl) ?_ ?_
        · exact .inl rfl
        focus
          refine GQ.r rfl rfl rfl rfl (grd_load1 (b := ?_) (v := ?_) tab_is rfl rfl rfl rfl ?_ ?_) ?_ ?_
          rotate_left 2
          · assumption
          · rfl
          · exact .inl rfl
        refine GQ.r rfl rfl rfl rfl (grd_assign rfl rfl) ?_ ?_
        · exact .inl rfl
        refine GQ.r rfl rfl rfl rfl (grd_assign rfl rfl) ?_ ?_
        · exact .inl rfl
        refine GQ.nil ?_
        refine GWP.ret ?_
        refine ⟨_, .two (.one rfl) (.one rfl), ?_⟩
        refine ⟨?_, ?_⟩
        · exact ⟨none, rfl, rfl⟩
        · assumption
    · rw [if_neg he] at hR2
      subst hR2
      focus
        refine GWP.seq ?_
        refine GWP.seq ?_
        refine GWP.region ?_
        refine GOps.r rfl rfl rfl rfl (grd_move rfl rfl) ?_
        refine GOps.r rfl rfl rfl rfl (grd_move rfl rfl) ?_
        refine GOps.r rfl rfl rfl rfl (grd_lss rfl rfl rfl) ?_
        refine GOps.r rfl rfl rfl rfl (grd_move rfl rfl) ?_
        refine GOps.no rfl ?_ rfl rfl ?_
        · simp; omega
        refine GOps.no rfl ?_ rfl rfl ?_
        · simp; omega
        refine GOps.no rfl ?_ rfl rfl ?_
        · simp; omega
        refine GOps.no rfl ?_ rfl rfl ?_
        · simp; omega
        refine GOps.no rfl ?_ rfl rfl ?_
        · simp; omega
        refine GOps.r rfl rfl rfl rfl (grd_pick_f rfl rfl ?_ rfl) ?_
        · exact decide_eq_false (by omega)
        refine GOps.nil ?_
        refine GWP.cond_f rfl ?_ ?_
        · with_reducible rfl
        refine GWP.exit ?_
        refine GWP.seq ?_
        refine GWP.seq ?_
        refine GWP.region ?_
        refine GOps.r rfl rfl rfl rfl (grd_move rfl rfl) ?_
        refine GOps.r rfl rfl rfl rfl (grd_nil rfl rfl) ?_
        refine GOps.r rfl rfl rfl rfl (grd_fieldAddr tab_is rfl rfl rfl rfl rfl) ?_
        focus
          refine GOps.r rfl rfl rfl rfl (grd_load1 (b := ?_) (v := ?_) tab_is rfl rfl rfl rfl ?_ ?_) ?_
          rotate_left 2
          · assumption
          · rfl
        refine GOps.r rfl rfl rfl rfl (grd_neq rfl rfl rfl) ?_
        refine GOps.nil ?_
        refine GWP.cond_f rfl ?_ ?_
        · exact decide_eq_false (by omega)
        refine GWP.skip ?_
        refine GWP.seq ?_
        refine GWP.region ?_
        refine GOps.r rfl rfl rfl rfl (grd_move rfl rfl) ?_
        refine GOps.r rfl rfl rfl rfl (grd_assign rfl rfl) ?_
        refine GOps.r rfl rfl rfl rfl (grd_assign rfl rfl) ?_
        refine GOps.nil ?_
        refine GWP.ret ?_
        refine ⟨_, .two (.one rfl) (.one rfl), ?_⟩
        refine ⟨?_, ?_⟩
        · exact ⟨o, rfl, hI⟩
        · assumption
  | succ n =>
    have hs := hs (by omega)
    obtain ⟨g1, h1⟩ : ∃ r, s.number (K - a) = r := ⟨_, rfl⟩
    obtain ⟨z1, h2⟩ : ∃ r, g1.2.number (K - (a + g1.1)) = r := ⟨_, rfl⟩
    have t1 := numE_le h1
    have t2 := numE_le h2
    by_cases he : z1.2.e ≠ 0
    · rw [runsO_bad h1 h2 he] at hR2
      subst hR2
      focus
        refine GWP.seq ?_
        refine GWP.seq ?_
        refine GWP.region ?_
        refine GOps.r rfl rfl rfl rfl (grd_move rfl rfl) ?_
        refine GOps.r rfl rfl rfl rfl (grd_move rfl rfl) ?_
        refine GOps.r rfl rfl rfl rfl (grd_lss rfl rfl rfl) ?_
        refine GOps.r rfl rfl rfl rfl (grd_move rfl rfl) ?_
        refine GOps.take rfl rfl ?_ ?_
        · simp; omega
        refine GOps.r rfl rfl rfl rfl (grd_move rfl rfl) ?_
        refine GOps.take rfl rfl ?_ ?_
        · simp; omega
        refine GOps.r rfl rfl rfl rfl (grd_nil rfl rfl) ?_
        refine GOps.take rfl rfl ?_ ?_
        · simp; omega
        refine GOps.r rfl rfl rfl rfl (grd_fieldAddr tab_is rfl rfl rfl rfl rfl) ?_
        refine GOps.take rfl rfl ?_ ?_
        · simp; omega
        focus
          refine GOps.r rfl rfl rfl rfl (grd_load1 (b := ?_) (v := ?_) tab_is rfl rfl rfl rfl ?_ ?_) ?_
          rotate_left 2
          · assumption
          · rfl
        refine GOps.take rfl rfl ?_ ?_
        · simp; omega
        refine GOps.r rfl rfl rfl rfl (grd_eql rfl rfl rfl) ?_
        refine GOps.r rfl rfl rfl rfl (grd_pick_t rfl rfl ?_ rfl) ?_
        · exact decide_eq_true (by omega)
        refine GOps.nil ?_
        refine GWP.cond_t rfl ?_ ?_
        · exact decide_eq_true (by omega)
        refine GWP.skip ?_
        refine GWP.seq ?_
        refine GWP.block ?_
        refine GWP.seq ?_
        refine GWP.region ?_
        refine GOps.r rfl rfl rfl rfl (grd_move rfl rfl) ?_
        refine GOps.r rfl rfl rfl rfl (grd_move rfl rfl) ?_
        refine GOps.r rfl rfl rfl rfl (grd_move rfl rfl) ?_
        refine GOps.r rfl rfl rfl rfl (grd_sub64 rfl rfl rfl ?_) ?_
        · omega
        refine GOps.w1 rfl rfl rfl rfl (gop_call rfl Try.call127 rfl ?_ (g_bound _ _ (K - a) ?_ ?_)) ?_
        · intro _ h; cases h; done
        · omega
        · omega
        focus
          refine GOps.w rfl rfl rfl rfl (gop_call rfl Try.call126 rfl ?_ (g_rnumE _ _ _ h1 _ ?_ _ _ ?_ ?_ ?_)) ?_
          · simp [Ctx.may]; done
          · omega
          rotate_left 2
          · assumption
        rintro _ Hxf5 ⟨rfl, ⟨pf1, cf2, rf3⟩, kf4, xf5⟩
        have xf5l := HExt.len xf5; try simp at xf5l
        have rf3g := RG.hg rf3; unfold rdBlk at rf3g
        refine GOps.r rfl rfl rfl rfl (grd_conv_in tab_is rfl rfl rfl rfl rfl ?_) ?_
        · refine wrap_i64_in ?_; omega
        refine GOps.r rfl rfl rfl rfl (grd_assign rfl rfl) ?_
        refine GOps.nil ?_
        refine GWP.seq ?_
        refine GWP.region ?_
        refine GOps.r rfl rfl rfl rfl (grd_move rfl rfl) ?_
        refine GOps.r rfl rfl rfl rfl (grd_move rfl rfl) ?_
        refine GOps.r rfl rfl rfl rfl (grd_add64 rfl rfl rfl ?_) ?_
        · omega
        refine GOps.r rfl rfl rfl rfl (grd_assign rfl rfl) ?_
        refine GOps.nil ?_
        refine GWP.seq ?_
        refine GWP.region ?_
        refine GOps.r rfl rfl rfl rfl (grd_move rfl rfl) ?_
        refine GOps.r rfl rfl rfl rfl (grd_move rfl rfl) ?_
        refine GOps.r rfl rfl rfl rfl (grd_move rfl rfl) ?_
        refine GOps.r rfl rfl rfl rfl (grd_sub64 rfl rfl rfl ?_) ?_
        · omega
        refine GOps.w1 rfl rfl rfl rfl (gop_call rfl Try.call127 rfl ?_ (g_bound _ _ (K - (a + g1.1)) ?_ ?_)) ?_
        · intro _ h; cases h; done
        · omega
        · omega
        focus
          refine GOps.w rfl rfl rfl rfl (gop_call rfl Try.call126 rfl ?_ (g_rnumE _ _ _ h2 _ ?_ _ _ ?_ ?_ ?_)) ?_
          · simp [Ctx.may]; done
          · omega
          rotate_left 2
          · assumption
        rintro _ Hxf10 ⟨rfl, ⟨pf6, cf7, rf8⟩, kf9, xf10⟩
        have xf10l := HExt.len xf10; try simp at xf10l
        have rf8g := RG.hg rf8; unfold rdBlk at rf8g
        refine GOps.r rfl rfl rfl rfl (grd_conv_in tab_is rfl rfl rfl rfl rfl ?_) ?_
        · refine wrap_i64_in ?_; omega
        refine GOps.r rfl rfl rfl rfl (grd_assign rfl rfl) ?_
        refine GOps.nil ?_
        refine GWP.seq ?_
        refine GWP.seq ?_
        refine GWP.region ?_
        refine GOps.r rfl rfl rfl rfl (grd_move rfl rfl) ?_
        refine GOps.r rfl rfl rfl rfl (grd_nil rfl rfl) ?_
        refine GOps.r rfl rfl rfl rfl (grd_fieldAddr tab_is rfl rfl rfl rfl rfl) ?_
        focus
          refine GOps.r rfl rfl rfl rfl (grd_load1 (b := ?_) (v := ?_) tab_is rfl rfl rfl rfl ?_ ?_) ?_
          rotate_left 2
          · assumption
          · rfl
        refine GOps.r rfl rfl rfl rfl (grd_neq rfl rfl rfl) ?_
        refine GOps.nil ?_
        refine GWP.cond_t rfl ?_ ?_
        · exact decide_eq_true (by omega)
        refine GWP.seq ?_
        refine GWP.drawR (by kernel_rfl) (by kernel_rfl) (by kernel_rfl) ?_
        refine GQ.r rfl rfl rfl rfl (grd_move rfl rfl) ?_ ?_
        · exact .inl rfl
        refine GQ.r rfl rfl rfl rfl (grd_nil rfl rfl) ?_ ?_
        · exact .inl rfl
        refine GQ.r rfl rfl rfl rfl (grd_fieldAddr tab_is rfl rfl rfl rfl rfl) ?_ ?_
        · exact .inl rfl
        focus
          refine GQ.r rfl rfl rfl rfl (grd_load1 (b := ?_) (v := ?_) tab_is rfl rfl rfl rfl ?_ ?_) ?_ ?_
          rotate_left 2
          · assumption
          · rfl
          · exact .inl rfl
        refine GQ.r rfl rfl rfl rfl (grd_assign rfl rfl) ?_ ?_
        · exact .inl rfl
        refine GQ.r rfl rfl rfl rfl (grd_assign rfl rfl) ?_ ?_
        · exact .inl rfl
        refine GQ.nil ?_
        refine GWP.ret ?_
        refine ⟨_, .two (.one rfl) (.one rfl), ?_⟩
        refine ⟨?_, ?_⟩
        · exact ⟨none, rfl, rfl⟩
        refine HExt.tr ?_ (by assumption) ?_
        refine HExt.tr ?_ (by assumption) ?_
        · assumption
        · simp; done
        · simp; done
    have he0 : z1.2.e = 0 := by omega
    by_cases hf : z1.1 = 0 ∨ (g1.1 = 0 ∧ 0 < acc.length)
    · rw [runsO_form h1 h2 he0 hf] at hR2
      subst hR2
      focus
        refine GWP.seq ?_
        refine GWP.seq ?_
        refine GWP.region ?_
        refine GOps.r rfl rfl rfl rfl (grd_move rfl rfl) ?_
        refine GOps.r rfl rfl rfl rfl (grd_move rfl rfl) ?_
        refine GOps.r rfl rfl rfl rfl (grd_lss rfl rfl rfl) ?_
        refine GOps.r rfl rfl rfl rfl (grd_move rfl rfl) ?_
        refine GOps.take rfl rfl ?_ ?_
        · simp; omega
        refine GOps.r rfl rfl rfl rfl (grd_move rfl rfl) ?_
        refine GOps.take rfl rfl ?_ ?_
        · simp; omega
        refine GOps.r rfl rfl rfl rfl (grd_nil rfl rfl) ?_
        refine GOps.take rfl rfl ?_ ?_
        · simp; omega
        refine GOps.r rfl rfl rfl rfl (grd_fieldAddr tab_is rfl rfl rfl rfl rfl) ?_
        refine GOps.take rfl rfl ?_ ?_
        · simp; omega
        focus
          refine GOps.r rfl rfl rfl rfl (grd_load1 (b := ?_) (v := ?_) tab_is rfl rfl rfl rfl ?_ ?_) ?_
          rotate_left 2
          · assumption
          · rfl
        refine GOps.take rfl rfl ?_ ?_
        · simp; omega
        refine GOps.r rfl rfl rfl rfl (grd_eql rfl rfl rfl) ?_
        refine GOps.r rfl rfl rfl rfl (grd_pick_t rfl rfl ?_ rfl) ?_
        · exact decide_eq_true (by omega)
        refine GOps.nil ?_
        refine GWP.cond_t rfl ?_ ?_
        · exact decide_eq_true (by omega)
        refine GWP.skip ?_
        refine GWP.seq ?_
        refine GWP.block ?_
        refine GWP.seq ?_
        refine GWP.region ?_
        refine GOps.r rfl rfl rfl rfl (grd_move rfl rfl) ?_
        refine GOps.r rfl rfl rfl rfl (grd_move rfl rfl) ?_
        refine GOps.r rfl rfl rfl rfl (grd_move rfl rfl) ?_
        refine GOps.r rfl rfl rfl rfl (grd_sub64 rfl rfl rfl ?_) ?_
        · omega
        refine GOps.w1 rfl rfl rfl rfl (gop_call rfl Try.call127 rfl ?_ (g_bound _ _ (K - a) ?_ ?_)) ?_
        · intro _ h; cases h; done
        · omega
        · omega
        focus
          refine GOps.w rfl rfl rfl rfl (gop_call rfl Try.call126 rfl ?_ (g_rnumE _ _ _ h1 _ ?_ _ _ ?_ ?_ ?_)) ?_
          · simp [Ctx.may]; done
          · omega
          rotate_left 2
          · assumption
        rintro _ Hxh5 ⟨rfl, ⟨ph1, ch2, rh3⟩, kh4, xh5⟩
        have xh5l := HExt.len xh5; try simp at xh5l
        have rh3g := RG.hg rh3; unfold rdBlk at rh3g
        refine GOps.r rfl rfl rfl rfl (grd_conv_in tab_is rfl rfl rfl rfl rfl ?_) ?_
        · refine wrap_i64_in ?_; omega
        refine GOps.r rfl rfl rfl rfl (grd_assign rfl rfl) ?_
        refine GOps.nil ?_
        refine GWP.seq ?_
        refine GWP.region ?_
        refine GOps.r rfl rfl rfl rfl (grd_move rfl rfl) ?_
        refine GOps.r rfl rfl rfl rfl (grd_move rfl rfl) ?_
        refine GOps.r rfl rfl rfl rfl (grd_add64 rfl rfl rfl ?_) ?_
        · omega
        refine GOps.r rfl rfl rfl rfl (grd_assign rfl rfl) ?_
        refine GOps.nil ?_
        refine GWP.seq ?_
        refine GWP.region ?_
        refine GOps.r rfl rfl rfl rfl (grd_move rfl rfl) ?_
        refine GOps.r rfl rfl rfl rfl (grd_move rfl rfl) ?_
        refine GOps.r rfl rfl rfl rfl (grd_move rfl rfl) ?_
        refine GOps.r rfl rfl rfl rfl (grd_sub64 rfl rfl rfl ?_) ?_
        · omega
        refine GOps.w1 rfl rfl rfl rfl (gop_call rfl Try.call127 rfl ?_ (g_bound _ _ (K - (a + g1.1)) ?_ ?_)) ?_
        · intro _ h; cases h; done
        · omega
        · omega
        focus
          refine GOps.w rfl rfl rfl rfl (gop_call rfl Try.call126 rfl ?_ (g_rnumE _ _ _ h2 _ ?_ _ _ ?_ ?_ ?_)) ?_
          · simp [Ctx.may]; done
          · omega
          rotate_left 2
          · assumption
        rintro _ Hxh10 ⟨rfl, ⟨ph6, ch7, rh8⟩, kh9, xh10⟩
        have xh10l := HExt.len xh10; try simp at xh10l
        have rh8g := RG.hg rh8; unfold rdBlk at rh8g
        refine GOps.r rfl rfl rfl rfl (grd_conv_in tab_is rfl rfl rfl rfl rfl ?_) ?_
        · refine wrap_i64_in ?_; omega
        refine GOps.r rfl rfl rfl rfl (grd_assign rfl rfl) ?_
        refine GOps.nil ?_
        refine GWP.seq ?_
        refine GWP.seq ?_
        refine GWP.region ?_
        refine GOps.r rfl rfl rfl rfl (grd_move rfl rfl) ?_
        refine GOps.r rfl rfl rfl rfl (grd_nil rfl rfl) ?_
        refine GOps.r rfl rfl rfl rfl (grd_fieldAddr tab_is rfl rfl rfl rfl rfl) ?_
        focus
          refine GOps.r rfl rfl rfl rfl (grd_load1 (b := ?_) (v := ?_) tab_is rfl rfl rfl rfl ?_ ?_) ?_
          rotate_left 2
          · assumption
          · rfl
        refine GOps.r rfl rfl rfl rfl (grd_neq rfl rfl rfl) ?_
        refine GOps.nil ?_
        refine GWP.cond_f rfl ?_ ?_
        · exact decide_eq_false (by omega)
        refine GWP.skip ?_
        refine GWP.seq ?_
        refine GWP.seq ?_
        refine GWP.region ?_
        refine GOps.r rfl rfl rfl rfl (grd_move rfl rfl) ?_
        refine GOps.r rfl rfl rfl rfl (grd_eql rfl rfl rfl) ?_
        refine GOps.r rfl rfl rfl rfl (grd_move rfl rfl) ?_
        refine GOps.split rfl rfl (fun h11 => ?_) (fun h11 => ?_)
        simp only [beq_true, beq_false, Bool.not_true, Bool.not_false, Bool.not_eq_true', Bool.not_eq_false', decide_eq_true_eq, decide_eq_false_iff_not] at h11
        refine GOps.take rfl rfl ?_ ?_
        · exact beq_iff_eq.2 (decide_eq_false (by assumption))
        refine GOps.r rfl rfl rfl rfl (grd_move rfl rfl) ?_
        refine GOps.take rfl rfl ?_ ?_
        · exact beq_iff_eq.2 (decide_eq_false (by assumption))
        refine GOps.r rfl rfl rfl rfl (grd_eql rfl rfl rfl) ?_
        refine GOps.take rfl rfl ?_ ?_
        · exact beq_iff_eq.2 (decide_eq_false (by assumption))
        refine GOps.r rfl rfl rfl rfl (grd_move rfl rfl) ?_
        refine GOps.take rfl rfl ?_ ?_
        · simp; omega
        refine GOps.r rfl rfl rfl rfl (grd_move rfl rfl) ?_
        refine GOps.take rfl rfl ?_ ?_
        · simp; omega
        refine GOps.r rfl rfl rfl rfl (grd_gtr rfl rfl rfl) ?_
        refine GOps.take rfl rfl ?_ ?_
        · exact beq_iff_eq.2 (decide_eq_false (by assumption))
        refine GOps.r rfl rfl rfl rfl (grd_pick_t rfl rfl ?_ rfl) ?_
        · exact decide_eq_true (by omega)
        refine GOps.r rfl rfl rfl rfl (grd_pick_f rfl rfl ?_ rfl) ?_
        · exact decide_eq_false (by assumption)
        refine GOps.nil ?_
        refine GWP.cond_t rfl ?_ ?_
        · exact decide_eq_true (by omega)
        refine GWP.seq ?_
        refine GWP.region ?_
        refine GOps.r rfl rfl rfl rfl (grd_assign rfl rfl) ?_
        refine GOps.r rfl rfl rfl rfl (grd_assign rfl rfl) ?_
        refine GOps.nil ?_
        refine GWP.ret ?_
        refine ⟨_, .two (.one rfl) (.one rfl), ?_⟩
        refine ⟨?_, ?_⟩
        · exact ⟨none, rfl, rfl⟩
        refine HExt.tr ?_ (by assumption) ?_
        refine HExt.tr ?_ (by assumption) ?_
        · assumption
        · simp; done
        · simp; done
        simp only [beq_true, beq_false, Bool.not_true, Bool.not_false, Bool.not_eq_true', Bool.not_eq_false', decide_eq_true_eq, decide_eq_false_iff_not] at h11
        refine GOps.no rfl ?_ rfl rfl ?_
        · exact beq_eq_false_iff_ne.2 (by rw [decide_eq_true (by assumption)]; decide)
        refine GOps.no rfl ?_ rfl rfl ?_
        · exact beq_eq_false_iff_ne.2 (by rw [decide_eq_true (by assumption)]; decide)
        refine GOps.no rfl ?_ rfl rfl ?_
        · exact beq_eq_false_iff_ne.2 (by rw [decide_eq_true (by assumption)]; decide)
        refine GOps.no rfl ?_ rfl rfl ?_
        · with_reducible rfl
        refine GOps.no rfl ?_ rfl rfl ?_
        · with_reducible rfl
        refine GOps.no rfl ?_ rfl rfl ?_
        · exact beq_eq_false_iff_ne.2 (by rw [decide_eq_true (by assumption)]; decide)
        refine GOps.r rfl rfl rfl rfl (grd_pick_t rfl rfl ?_ rfl) ?_
        · exact decide_eq_true (by assumption)
        refine GOps.nil ?_
        refine GWP.cond_t rfl ?_ ?_
        · with_reducible rfl
        refine GWP.seq ?_
        refine GWP.region ?_
        refine GOps.r rfl rfl rfl rfl (grd_assign rfl rfl) ?_
        refine GOps.r rfl rfl rfl rfl (grd_assign rfl rfl) ?_
        refine GOps.nil ?_
        refine GWP.ret ?_
        refine ⟨_, .two (.one rfl) (.one rfl), ?_⟩
        refine ⟨?_, ?_⟩
        · exact ⟨none, rfl, rfl⟩
        refine HExt.tr ?_ (by assumption) ?_
        refine HExt.tr ?_ (by assumption) ?_
        · assumption
        · simp; done
        · simp; done
    rw [runsO_step h1 h2 he0 hf] at hR2
    cases o with
    | none =>
      have hI2 : acc = [] := hI
      subst hI2
      simp only [runS, List.length_nil] at hn hf ⊢
      focus
        refine GWP.seq ?_
        refine GWP.seq ?_
        refine GWP.region ?_
        refine GOps.r rfl rfl rfl rfl (grd_move rfl rfl) ?_
        refine GOps.r rfl rfl rfl rfl (grd_move rfl rfl) ?_
        refine GOps.r rfl rfl rfl rfl (grd_lss rfl rfl rfl) ?_
        refine GOps.r rfl rfl rfl rfl (grd_move rfl rfl) ?_
        refine GOps.take rfl rfl ?_ ?_
        · simp; omega
        refine GOps.r rfl rfl rfl rfl (grd_move rfl rfl) ?_
        refine GOps.take rfl rfl ?_ ?_
        · simp; omega
        refine GOps.r rfl rfl rfl rfl (grd_nil rfl rfl) ?_
        refine GOps.take rfl rfl ?_ ?_
        · simp; omega
        refine GOps.r rfl rfl rfl rfl (grd_fieldAddr tab_is rfl rfl rfl rfl rfl) ?_
        refine GOps.take rfl rfl ?_ ?_
        · simp; omega
        focus
          refine GOps.r rfl rfl rfl rfl (grd_load1 (b := ?_) (v := ?_) tab_is rfl rfl rfl rfl ?_ ?_) ?_
          rotate_left 2
          · assumption
          · rfl
        refine GOps.take rfl rfl ?_ ?_
        · simp; omega
        refine GOps.r rfl rfl rfl rfl (grd_eql rfl rfl rfl) ?_
        refine GOps.r rfl rfl rfl rfl (grd_pick_t rfl rfl ?_ rfl) ?_
        · exact decide_eq_true (by omega)
        refine GOps.nil ?_
        refine GWP.cond_t rfl ?_ ?_
        · exact decide_eq_true (by omega)
        refine GWP.skip ?_
        refine GWP.seq ?_
        refine GWP.block ?_
        refine GWP.seq ?_
        refine GWP.region ?_
        refine GOps.r rfl rfl rfl rfl (grd_move rfl rfl) ?_
        refine GOps.r rfl rfl rfl rfl (grd_move rfl rfl) ?_
        refine GOps.r rfl rfl rfl rfl (grd_move rfl rfl) ?_
        refine GOps.r rfl rfl rfl rfl (grd_sub64 rfl rfl rfl ?_) ?_
        · omega
        refine GOps.w1 rfl rfl rfl rfl (gop_call rfl Try.call127 rfl ?_ (g_bound _ _ (K - a) ?_ ?_)) ?_
        · intro _ h; cases h; done
        · omega
        · omega
        focus
          refine GOps.w rfl rfl rfl rfl (gop_call rfl Try.call126 rfl ?_ (g_rnumE _ _ _ h1 _ ?_ _ _ ?_ ?_ ?_)) ?_
          · simp [Ctx.may]; done
          · omega
          rotate_left 2
          · assumption
        rintro _ Hxi5 ⟨rfl, ⟨pi1, ci2, ri3⟩, ki4, xi5⟩
        have xi5l := HExt.len xi5; try simp at xi5l
        have ri3g := RG.hg ri3; unfold rdBlk at ri3g
        refine GOps.r rfl rfl rfl rfl (grd_conv_in tab_is rfl rfl rfl rfl rfl ?_) ?_
        · refine wrap_i64_in ?_; omega
        refine GOps.r rfl rfl rfl rfl (grd_assign rfl rfl) ?_
        refine GOps.nil ?_
        refine GWP.seq ?_
        refine GWP.region ?_
        refine GOps.r rfl rfl rfl rfl (grd_move rfl rfl) ?_
        refine GOps.r rfl rfl rfl rfl (grd_move rfl rfl) ?_
        refine GOps.r rfl rfl rfl rfl (grd_add64 rfl rfl rfl ?_) ?_
        · omega
        refine GOps.r rfl rfl rfl rfl (grd_assign rfl rfl) ?_
        refine GOps.nil ?_
        refine GWP.seq ?_
        refine GWP.region ?_
        refine GOps.r rfl rfl rfl rfl (grd_move rfl rfl) ?_
        refine GOps.r rfl rfl rfl rfl (grd_move rfl rfl) ?_
        refine GOps.r rfl rfl rfl rfl (grd_move rfl rfl) ?_
        refine GOps.r rfl rfl rfl rfl (grd_sub64 rfl rfl rfl ?_) ?_
        · omega
        refine GOps.w1 rfl rfl rfl rfl (gop_call rfl Try.call127 rfl ?_ (g_bound _ _ (K - (a + g1.1)) ?_ ?_)) ?_
        · intro _ h; cases h; done
        · omega
        · omega
        focus
          refine GOps.w rfl rfl rfl rfl (gop_call rfl Try.call126 rfl ?_ (g_rnumE _ _ _ h2 _ ?_ _ _ ?_ ?_ ?_)) ?_
          · simp [Ctx.may]; done
          · omega
          rotate_left 2
          · assumption
        rintro _ Hxi10 ⟨rfl, ⟨pi6, ci7, ri8⟩, ki9, xi10⟩
        have xi10l := HExt.len xi10; try simp at xi10l
        have ri8g := RG.hg ri8; unfold rdBlk at ri8g
        refine GOps.r rfl rfl rfl rfl (grd_conv_in tab_is rfl rfl rfl rfl rfl ?_) ?_
        · refine wrap_i64_in ?_; omega
        refine GOps.r rfl rfl rfl rfl (grd_assign rfl rfl) ?_
        refine GOps.nil ?_
        refine GWP.seq ?_
        refine GWP.seq ?_
        refine GWP.region ?_
        refine GOps.r rfl rfl rfl rfl (grd_move rfl rfl) ?_
        refine GOps.r rfl rfl rfl rfl (grd_nil rfl rfl) ?_
        refine GOps.r rfl rfl rfl rfl (grd_fieldAddr tab_is rfl rfl rfl rfl rfl) ?_
        focus
          refine GOps.r rfl rfl rfl rfl (grd_load1 (b := ?_) (v := ?_) tab_is rfl rfl rfl rfl ?_ ?_) ?_
          rotate_left 2
          · assumption
          · rfl
        refine GOps.r rfl rfl rfl rfl (grd_neq rfl rfl rfl) ?_
        refine GOps.nil ?_
        refine GWP.cond_f rfl ?_ ?_
        · exact decide_eq_false (by omega)
        refine GWP.skip ?_
        refine GWP.seq ?_
        refine GWP.seq ?_
        refine GWP.region ?_
        refine GOps.r rfl rfl rfl rfl (grd_move rfl rfl) ?_
        refine GOps.r rfl rfl rfl rfl (grd_eql rfl rfl rfl) ?_
        refine GOps.r rfl rfl rfl rfl (grd_move rfl rfl) ?_
        refine GOps.take rfl rfl ?_ ?_
        · simp; omega
        refine GOps.r rfl rfl rfl rfl (grd_move rfl rfl) ?_
        refine GOps.take rfl rfl ?_ ?_
        · simp; omega
        refine GOps.r rfl rfl rfl rfl (grd_eql rfl rfl rfl) ?_
        refine GOps.take rfl rfl ?_ ?_
        · simp; omega
        refine GOps.r rfl rfl rfl rfl (grd_move rfl rfl) ?_
        refine GOps.split rfl rfl (fun i11 => ?_) (fun i11 => ?_)
        simp only [beq_true, beq_false, Bool.not_true, Bool.not_false, Bool.not_eq_true', Bool.not_eq_false', decide_eq_true_eq, decide_eq_false_iff_not] at i11
        refine GOps.take rfl rfl ?_ ?_
        · exact beq_iff_eq.2 (decide_eq_true (by assumption))
        refine GOps.r rfl rfl rfl rfl (grd_move rfl rfl) ?_
        refine GOps.take rfl rfl ?_ ?_
        · exact beq_iff_eq.2 (decide_eq_true (by assumption))
        refine GOps.r rfl rfl rfl rfl (grd_gtr rfl rfl rfl) ?_
        refine GOps.take rfl rfl ?_ ?_
        · simp; omega
        refine GOps.r rfl rfl rfl rfl (grd_pick_t rfl rfl ?_ rfl) ?_
        · exact decide_eq_true (by assumption)
        refine GOps.r rfl rfl rfl rfl (grd_pick_f rfl rfl ?_ rfl) ?_
        · exact decide_eq_false (by omega)
        refine GOps.nil ?_
        refine GWP.cond_f rfl ?_ ?_
        · exact decide_eq_false (by omega)
        refine GWP.skip ?_
        refine GWP.seq ?_
        refine GWP.region ?_
        refine GOps.r rfl rfl rfl rfl (grd_move rfl rfl) ?_
        refine GOps.r rfl rfl rfl rfl (grd_move rfl rfl) ?_
        refine GOps.r rfl rfl rfl rfl (grd_add64 rfl rfl rfl ?_) ?_
        · omega
        refine GOps.r rfl rfl rfl rfl (grd_assign rfl rfl) ?_
        refine GOps.nil ?_
        refine GWP.region ?_
        refine GOps.r rfl rfl rfl rfl (grd_move rfl rfl) ?_
        refine GOps.r rfl rfl rfl rfl (grd_move rfl rfl) ?_
        refine GOps.r rfl rfl rfl rfl (grd_move rfl rfl) ?_
        focus
          refine GOps.r rfl rfl rfl rfl (grd_build (cs := ?_) tab_is rfl rfl rfl ?_ rfl ?_) ?_
          rotate_left 1
          · decide
          · simp [gfill, gsets, Value.cells]; rfl
        focus
          refine GOps.w1 rfl rfl rfl rfl (gop_lit (id := ?_) (cs := ?_) ?_ tab_is rfl rfl rfl ?_ ?_ rfl ?_ ?_) ?_
          rotate_left 2
          · rfl
          · decide
          · decide
          · simp [gfill, gsets, Value.cells]; rfl
          · rfl
        focus
          refine GOps.w1 rfl rfl rfl rfl (gop_nil (id := ?_) ?_ ?_ tab_is rfl rfl rfl (by decide) rfl (GSrc.slice (b := ?_) rfl rfl rfl ?_ ?_) ?_ ?_ ?_ ?_ ?_) ?_
          rotate_left 2
          · simp; rfl
          rotate_left 1
          · exact Hp.at_push_eq
          · exact Nat.le_of_ble_eq_true rfl
          · rfl
          · simp; rfl
          · omega
          · decide
          · decide
        refine GOps.r rfl rfl rfl rfl (grd_assign rfl rfl) ?_
        refine GOps.nil ?_
        refine GWP.region ?_
        refine GOps.r rfl rfl rfl rfl (grd_move rfl rfl) ?_
        refine GOps.r rfl rfl rfl rfl (grd_add64 rfl rfl rfl ?_) ?_
        · omega
        refine GOps.r rfl rfl rfl rfl (grd_assign rfl rfl) ?_
        refine GOps.nil ?_
        rotate_left 1
        simp only [beq_true, beq_false, Bool.not_true, Bool.not_false, Bool.not_eq_true', Bool.not_eq_false', decide_eq_true_eq, decide_eq_false_iff_not] at i11
        refine GOps.no rfl ?_ rfl rfl ?_
        · exact beq_eq_false_iff_ne.2 (by rw [decide_eq_false (by assumption)]; decide)
        refine GOps.no rfl ?_ rfl rfl ?_
        · exact beq_eq_false_iff_ne.2 (by rw [decide_eq_false (by assumption)]; decide)
        refine GOps.take rfl rfl ?_ ?_
        · simp; omega
        refine GOps.r rfl rfl rfl rfl (grd_pick_f rfl rfl ?_ rfl) ?_
        · exact decide_eq_false (by assumption)
        refine GOps.r rfl rfl rfl rfl (grd_pick_f rfl rfl ?_ rfl) ?_
        · exact decide_eq_false (by omega)
        refine GOps.nil ?_
        refine GWP.cond_f rfl ?_ ?_
        · with_reducible rfl
        refine GWP.skip ?_
        refine GWP.seq ?_
        refine GWP.region ?_
        refine GOps.r rfl rfl rfl rfl (grd_move rfl rfl) ?_
        refine GOps.r rfl rfl rfl rfl (grd_move rfl rfl) ?_
        refine GOps.r rfl rfl rfl rfl (grd_add64 rfl rfl rfl ?_) ?_
        · omega
        refine GOps.r rfl rfl rfl rfl (grd_assign rfl rfl) ?_
        refine GOps.nil ?_
        refine GWP.region ?_
        refine GOps.r rfl rfl rfl rfl (grd_move rfl rfl) ?_
        refine GOps.r rfl rfl rfl rfl (grd_move rfl rfl) ?_
        refine GOps.r rfl rfl rfl rfl (grd_move rfl rfl) ?_
        focus
          refine GOps.r rfl rfl rfl rfl (grd_build (cs := ?_) tab_is rfl rfl rfl ?_ rfl ?_) ?_
          rotate_left 1
          · decide
          · simp [gfill, gsets, Value.cells]; rfl
        focus
          refine GOps.w1 rfl rfl rfl rfl (gop_lit (id := ?_) (cs := ?_) ?_ tab_is rfl rfl rfl ?_ ?_ rfl ?_ ?_) ?_
          rotate_left 2
          · rfl
          · decide
          · decide
          · simp [gfill, gsets, Value.cells]; rfl
          · rfl
        focus
          refine GOps.w1 rfl rfl rfl rfl (gop_nil (id := ?_) ?_ ?_ tab_is rfl rfl rfl (by decide) rfl (GSrc.slice (b := ?_) rfl rfl rfl ?_ ?_) ?_ ?_ ?_ ?_ ?_) ?_
          rotate_left 2
          · simp; rfl
          rotate_left 1
          · exact Hp.at_push_eq
          · exact Nat.le_of_ble_eq_true rfl
          · rfl
          · simp; rfl
          · omega
          · decide
          · decide
        refine GOps.r rfl rfl rfl rfl (grd_assign rfl rfl) ?_
        refine GOps.nil ?_
        refine GWP.region ?_
        refine GOps.r rfl rfl rfl rfl (grd_move rfl rfl) ?_
        refine GOps.r rfl rfl rfl rfl (grd_add64 rfl rfl rfl ?_) ?_
        · omega
        refine GOps.r rfl rfl rfl rfl (grd_assign rfl rfl) ?_
        refine GOps.nil ?_
        rotate_left 1
      all_goals refine ⟨(some (Hxi10.length + 1), [(a + g1.1, a + g1.1 + z1.1)], n, a + g1.1 + z1.1), ?_, ⟨z1.2, pi6, ci7, ?_, hR2, ⟨by simp, by omega, ?_⟩, ?_, by simp only; omega, by simp only [List.length_cons, List.length_nil]; omega, fun _ => he0⟩, by simp only; omega⟩
      · simp only [runS, List.length_cons, List.length_nil]
        repeat (first | exact Env.sub_nil | refine Env.sub_cons rfl ?_ | (refine Env.sub_cons (congrArg some ?_) ?_; (· first | rfl | go_num | (simp; done))))
      · exact rg_ext ri8 (HExt.refl _ _).push.push
      · ((repeat (first | (refine (killO_ne ?_).trans ?_; (· (intro hq; first | (have := lt_io _ hq; first | omega | (simp; omega)) | (have := lt_ig _ hq; first | omega | (simp; omega))))) | (refine (Hp.at_put_ne ?_).trans ?_; (· (first | assumption | (exact Ne.symm (by assumption)) | omega | (simp; done) | (simp; omega)))) | (refine (Hp.at_push_lt ?_).trans ?_; (· (first | assumption | omega | (simp; done) | (simp; omega)))) | (refine (Hp.at_kill_ne ?_).trans ?_; (· (first | assumption | (exact Ne.symm (by assumption)) | omega | (simp; done) | (simp; omega)))) | (refine (HExt.eq (by assumption) _ ?_ ?_).trans ?_; (· (first | assumption | omega | (simp; done) | (simp; omega))); (· (first | (intro h; cases h; done) | (simp; done) | (simp; omega)))))); (first | assumption | exact Hp.at_push_eq | (refine Hp.at_push_id ?_; (· (first | rfl | assumption | omega | (simp; done) | (simp; omega)))) | (refine Hp.at_put_eq ?_; (· (first | assumption | omega | (simp; done) | (simp; omega)))) | (refine Hp.at_put_id ?_ ?_; (· (first | rfl | assumption | omega | (simp; done) | (simp; omega))); (· (first | assumption | omega | (simp; done) | (simp; omega))))))
      ·
        repeat (first | exact HExt.refl _ _ | assumption | refine HExt.push ?_ | (refine HExt.put ?_ ?_; rotate_left 1; (· first | (refine .inr ?_; first | omega | (simp; done) | (simp; omega)) | (refine .inl ?_; simp))) | (refine HExt.kill ?_ ?_; rotate_left 1; (· first | (refine .inr ?_; first | omega | (simp; done) | (simp; omega)) | (refine .inl ?_; simp))) | (refine HExt.tr ?_ (by assumption) ?_; rotate_left 1; (· first | (intro _ h; cases h; done) | (simp; done) | (simp; omega))))
      · simp only [runS, List.length_cons, List.length_nil]
        repeat (first | exact Env.sub_nil | refine Env.sub_cons rfl ?_ | (refine Env.sub_cons (congrArg some ?_) ?_; (· first | rfl | go_num | (simp; done))))
      · exact rg_ext ri8 (HExt.refl _ _).push.push
      · ((repeat (first | (refine (killO_ne ?_).trans ?_; (· (intro hq; first | (have := lt_io _ hq; first | omega | (simp; omega)) | (have := lt_ig _ hq; first | omega | (simp; omega))))) | (refine (Hp.at_put_ne ?_).trans ?_; (· (first | assumption | (exact Ne.symm (by assumption)) | omega | (simp; done) | (simp; omega)))) | (refine (Hp.at_push_lt ?_).trans ?_; (· (first | assumption | omega | (simp; done) | (simp; omega)))) | (refine (Hp.at_kill_ne ?_).trans ?_; (· (first | assumption | (exact Ne.symm (by assumption)) | omega | (simp; done) | (simp; omega)))) | (refine (HExt.eq (by assumption) _ ?_ ?_).trans ?_; (· (first | assumption | omega | (simp; done) | (simp; omega))); (· (first | (intro h; cases h; done) | (simp; done) | (simp; omega)))))); (first | assumption | exact Hp.at_push_eq | (refine Hp.at_push_id ?_; (· (first | rfl | assumption | omega | (simp; done) | (simp; omega)))) | (refine Hp.at_put_eq ?_; (· (first | assumption | omega | (simp; done) | (simp; omega)))) | (refine Hp.at_put_id ?_ ?_; (· (first | rfl | assumption | omega | (simp; done) | (simp; omega))); (· (first | assumption | omega | (simp; done) | (simp; omega))))))
      ·
        repeat (first | exact HExt.refl _ _ | assumption | refine HExt.push ?_ | (refine HExt.put ?_ ?_; rotate_left 1; (· first | (refine .inr ?_; first | omega | (simp; done) | (simp; omega)) | (refine .inl ?_; simp))) | (refine HExt.kill ?_ ?_; rotate_left 1; (· first | (refine .inr ?_; first | omega | (simp; done) | (simp; omega)) | (refine .inl ?_; simp))) | (refine HExt.tr ?_ (by assumption) ?_; rotate_left 1; (· first | (intro _ h; cases h; done) | (simp; done) | (simp; omega))))
    | some id =>
      obtain ⟨hl0, hid, hat⟩ := hI
      have hidl := Hp.at_lt hat
      have hgid : g ≠ id := by
        rintro rfl
        omega
      simp only [runS]
      focus
        refine GWP.seq ?_
        refine GWP.seq ?_
        refine GWP.region ?_
        refine GOps.r rfl rfl rfl rfl (grd_move rfl rfl) ?_
        refine GOps.r rfl rfl rfl rfl (grd_move rfl rfl) ?_
        refine GOps.r rfl rfl rfl rfl (grd_lss rfl rfl rfl) ?_
        refine GOps.r rfl rfl rfl rfl (grd_move rfl rfl) ?_
        refine GOps.take rfl rfl ?_ ?_
        · simp; omega
        refine GOps.r rfl rfl rfl rfl (grd_move rfl rfl) ?_
        refine GOps.take rfl rfl ?_ ?_
        · simp; omega
        refine GOps.r rfl rfl rfl rfl (grd_nil rfl rfl) ?_
        refine GOps.take rfl rfl ?_ ?_
        · simp; omega
        refine GOps.r rfl rfl rfl rfl (grd_fieldAddr tab_is rfl rfl rfl rfl rfl) ?_
        refine GOps.take rfl rfl ?_ ?_
        · simp; omega
        focus
          refine GOps.r rfl rfl rfl rfl (grd_load1 (b := ?_) (v := ?_) tab_is rfl rfl rfl rfl ?_ ?_) ?_
          rotate_left 2
          · assumption
          · rfl
        refine GOps.take rfl rfl ?_ ?_
        · simp; omega
        refine GOps.r rfl rfl rfl rfl (grd_eql rfl rfl rfl) ?_
        refine GOps.r rfl rfl rfl rfl (grd_pick_t rfl rfl ?_ rfl) ?_
        · exact decide_eq_true (by omega)
        refine GOps.nil ?_
        refine GWP.cond_t rfl ?_ ?_
        · exact decide_eq_true (by omega)
        refine GWP.skip ?_
        refine GWP.seq ?_
        refine GWP.block ?_
        refine GWP.seq ?_
        refine GWP.region ?_
        refine GOps.r rfl rfl rfl rfl (grd_move rfl rfl) ?_
        refine GOps.r rfl rfl rfl rfl (grd_move rfl rfl) ?_
        refine GOps.r rfl rfl rfl rfl (grd_move rfl rfl) ?_
        refine GOps.r rfl rfl rfl rfl (grd_sub64 rfl rfl rfl ?_) ?_
        · omega
        refine GOps.w1 rfl rfl rfl rfl (gop_call rfl Try.call127 rfl ?_ (g_bound _ _ (K - a) ?_ ?_)) ?_
        · intro _ h; cases h; done
        · omega
        · omega
        focus
          refine GOps.w rfl rfl rfl rfl (gop_call rfl Try.call126 rfl ?_ (g_rnumE _ _ _ h1 _ ?_ _ _ ?_ ?_ ?_)) ?_
          · simp [Ctx.may]; done
          · omega
          rotate_left 2
          · assumption
        rintro _ Hxj5 ⟨rfl, ⟨pj1, cj2, rj3⟩, kj4, xj5⟩
        have xj5l := HExt.len xj5; try simp at xj5l
        have rj3g := RG.hg rj3; unfold rdBlk at rj3g
        refine GOps.r rfl rfl rfl rfl (grd_conv_in tab_is rfl rfl rfl rfl rfl ?_) ?_
        · refine wrap_i64_in ?_; omega
        refine GOps.r rfl rfl rfl rfl (grd_assign rfl rfl) ?_
        refine GOps.nil ?_
        refine GWP.seq ?_
        refine GWP.region ?_
        refine GOps.r rfl rfl rfl rfl (grd_move rfl rfl) ?_
        refine GOps.r rfl rfl rfl rfl (grd_move rfl rfl) ?_
        refine GOps.r rfl rfl rfl rfl (grd_add64 rfl rfl rfl ?_) ?_
        · omega
        refine GOps.r rfl rfl rfl rfl (grd_assign rfl rfl) ?_
        refine GOps.nil ?_
        refine GWP.seq ?_
        refine GWP.region ?_
        refine GOps.r rfl rfl rfl rfl (grd_move rfl rfl) ?_
        refine GOps.r rfl rfl rfl rfl (grd_move rfl rfl) ?_
        refine GOps.r rfl rfl rfl rfl (grd_move rfl rfl) ?_
        refine GOps.r rfl rfl rfl rfl (grd_sub64 rfl rfl rfl ?_) ?_
        · omega
        refine GOps.w1 rfl rfl rfl rfl (gop_call rfl Try.call127 rfl ?_ (g_bound _ _ (K - (a + g1.1)) ?_ ?_)) ?_
        · intro _ h; cases h; done
        · omega
        · omega
        focus
          refine GOps.w rfl rfl rfl rfl (gop_call rfl Try.call126 rfl ?_ (g_rnumE _ _ _ h2 _ ?_ _ _ ?_ ?_ ?_)) ?_
          · simp [Ctx.may]; done
          · omega
          rotate_left 2
          · assumption
        rintro _ Hxj10 ⟨rfl, ⟨pj6, cj7, rj8⟩, kj9, xj10⟩
        have xj10l := HExt.len xj10; try simp at xj10l
        have rj8g := RG.hg rj8; unfold rdBlk at rj8g
        refine GOps.r rfl rfl rfl rfl (grd_conv_in tab_is rfl rfl rfl rfl rfl ?_) ?_
        · refine wrap_i64_in ?_; omega
        refine GOps.r rfl rfl rfl rfl (grd_assign rfl rfl) ?_
        refine GOps.nil ?_
        refine GWP.seq ?_
        refine GWP.seq ?_
        refine GWP.region ?_
        refine GOps.r rfl rfl rfl rfl (grd_move rfl rfl) ?_
        refine GOps.r rfl rfl rfl rfl (grd_nil rfl rfl) ?_
        refine GOps.r rfl rfl rfl rfl (grd_fieldAddr tab_is rfl rfl rfl rfl rfl) ?_
        focus
          refine GOps.r rfl rfl rfl rfl (grd_load1 (b := ?_) (v := ?_) tab_is rfl rfl rfl rfl ?_ ?_) ?_
          rotate_left 2
          · assumption
          · rfl
        refine GOps.r rfl rfl rfl rfl (grd_neq rfl rfl rfl) ?_
        refine GOps.nil ?_
        refine GWP.cond_f rfl ?_ ?_
        · exact decide_eq_false (by omega)
        refine GWP.skip ?_
        refine GWP.seq ?_
        refine GWP.seq ?_
        refine GWP.region ?_
        refine GOps.r rfl rfl rfl rfl (grd_move rfl rfl) ?_
        refine GOps.r rfl rfl rfl rfl (grd_eql rfl rfl rfl) ?_
        refine GOps.r rfl rfl rfl rfl (grd_move rfl rfl) ?_
        refine GOps.take rfl rfl ?_ ?_
        · simp; omega
        refine GOps.r rfl rfl rfl rfl (grd_move rfl rfl) ?_
        refine GOps.take rfl rfl ?_ ?_
        · simp; omega
        refine GOps.r rfl rfl rfl rfl (grd_eql rfl rfl rfl) ?_
        refine GOps.take rfl rfl ?_ ?_
        · simp; omega
        refine GOps.r rfl rfl rfl rfl (grd_move rfl rfl) ?_
        refine GOps.no rfl ?_ rfl rfl ?_
        · simp; omega
        refine GOps.no rfl ?_ rfl rfl ?_
        · simp; omega
        refine GOps.take rfl rfl ?_ ?_
        · simp; omega
        refine GOps.r rfl rfl rfl rfl (grd_pick_f rfl rfl ?_ rfl) ?_
        · exact decide_eq_false (by omega)
        refine GOps.r rfl rfl rfl rfl (grd_pick_f rfl rfl ?_ rfl) ?_
        · exact decide_eq_false (by omega)
        refine GOps.nil ?_
        refine GWP.cond_f rfl ?_ ?_
        · with_reducible rfl
        refine GWP.skip ?_
        refine GWP.seq ?_
        refine GWP.region ?_
        refine GOps.r rfl rfl rfl rfl (grd_move rfl rfl) ?_
        refine GOps.r rfl rfl rfl rfl (grd_move rfl rfl) ?_
        refine GOps.r rfl rfl rfl rfl (grd_add64 rfl rfl rfl ?_) ?_
        · omega
        refine GOps.r rfl rfl rfl rfl (grd_assign rfl rfl) ?_
        refine GOps.nil ?_
        refine GWP.region ?_
        refine GOps.r rfl rfl rfl rfl (grd_move rfl rfl) ?_
        refine GOps.r rfl rfl rfl rfl (grd_move rfl rfl) ?_
        refine GOps.r rfl rfl rfl rfl (grd_move rfl rfl) ?_
        focus
          refine GOps.r rfl rfl rfl rfl (grd_build (cs := ?_) tab_is rfl rfl rfl ?_ rfl ?_) ?_
          rotate_left 1
          · decide
          · simp [gfill, gsets, Value.cells]; rfl
        focus
          refine GOps.w1 rfl rfl rfl rfl (gop_lit (id := ?_) (cs := ?_) ?_ tab_is rfl rfl rfl ?_ ?_ rfl ?_ ?_) ?_
          rotate_left 2
          · rfl
          · decide
          · decide
          · simp [gfill, gsets, Value.cells]; rfl
          · rfl
        focus
          refine GOps.w1 rfl rfl rfl rfl (gop_own (id := ?_) (b := ?_) ?_ ?_ tab_is rfl rfl rfl (by decide) rfl (Nat.le_refl _) ?_ ?_ ?_ ?_ ?_ ?_ (GSrc.slice (b := ?_) rfl rfl rfl ?_ ?_) ?_ ?_ ?_ ?_) ?_
          rotate_left 3
          · simp; rfl
          refine (Hp.at_push_lt ?_).trans ?_
          · omega
          refine (HExt.eq (by assumption) _ ?_ ?_).trans ?_
          · omega
          · simp; omega
          refine (HExt.eq (by assumption) _ ?_ ?_).trans ?_
          · omega
          · simp; omega
          · assumption
          · rfl
          · rfl
          · exact .inr (by omega)
          · simp; done
          · omega
          rotate_left 1
          · exact Hp.at_push_eq
          · exact Nat.le_of_ble_eq_true rfl
          · rfl
          · simp; rfl
          · omega
          · omega
        refine GOps.r rfl rfl rfl rfl (grd_assign rfl rfl) ?_
        refine GOps.nil ?_
        refine GWP.region ?_
        refine GOps.r rfl rfl rfl rfl (grd_move rfl rfl) ?_
        refine GOps.r rfl rfl rfl rfl (grd_add64 rfl rfl rfl ?_) ?_
        · omega
        refine GOps.r rfl rfl rfl rfl (grd_assign rfl rfl) ?_
        refine GOps.nil ?_
      refine ⟨(some (Hxj10.length + 1), acc ++ [(a + g1.1, a + g1.1 + z1.1)], n, a + g1.1 + z1.1), ?_, ⟨z1.2, pj6, cj7, ?_, hR2, ⟨by simp, by omega, ?_⟩, ?_, by simp only; omega, by simp only [List.length_append, List.length_cons, List.length_nil]; omega, fun _ => he0⟩, by simp only; omega⟩
      · simp only [runS, List.length_append, List.length_cons, List.length_nil]
        repeat (first | exact Env.sub_nil | refine Env.sub_cons rfl ?_ | (refine Env.sub_cons (congrArg some ?_) ?_; (· first | rfl | go_num | (simp; done))))
      · exact rg_ext (rg_kno (rg_ext rj8 (HExt.refl _ _).push) ((Hp.at_push_lt (by omega)).trans ((xj10.eq _ (by omega) (by simp; omega)).trans ((xj5.eq _ (by omega) (by simp; omega)).trans hat))) (by omega) (runV_no hl0)) (HExt.refl _ _).push
      · refine (Hp.at_push_id (by simp)).trans (congrArg (fun c => some (Blk.mk _ 2 c true)) ?_)
        rw [List.take_of_length_le (by simp), runV_append]
        rfl
      ·
        repeat (first | exact HExt.refl _ _ | assumption | refine HExt.push ?_ | (refine HExt.put ?_ ?_; rotate_left 1; (· first | (refine .inr ?_; first | omega | (simp; done) | (simp; omega)) | (refine .inl ?_; simp))) | (refine HExt.kill ?_ ?_; rotate_left 1; (· first | (refine .inr ?_; first | omega | (simp; done) | (simp; omega)) | (refine .inl ?_; simp))) | (refine HExt.tr ?_ (by assumption) ?_; rotate_left 1; (· first | (intro _ h; cases h; done) | (simp; done) | (simp; omega))))
end Go.Proofs.Ytcbngjpihcemiaa
