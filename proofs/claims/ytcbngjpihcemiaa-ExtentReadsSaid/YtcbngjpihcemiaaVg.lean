/- Numbers out of bytes: the readers, on the ghost side. -/
import Derived.Test.YtcbngjpihcemiaaLf
import Derived.Test.YtcbngjpihcemiaaGtab
import Derived.Test.YtcbngjpihcemiaaVb
namespace Go.Proofs.Ytcbngjpihcemiaa
open Go.RowKit

/-- What was told of bytes is so behind. -/
def BSk (H H' : Hp) : Prop := ∀ v L, BS H v L → BS H' v L
theorem BSk.refl (H : Hp) : BSk H H := fun _ _ h => h
theorem BSk.of {H H' : Hp} (h : HExt [] H H') : BSk H H' := fun _ _ k => k.ext h
theorem BSk.trans {H H1 H2 : Hp} (h : BSk H H1) (k : BSk H1 H2) : BSk H H2 := fun _ _ q => k _ _ (h _ _ q)
/-- A reader's struct. -/
def rdBlk (T : TypeId) (v : Value) (e : Int) : Blk := ⟨T, 1, [v, .int .i64 e], true⟩
theorem bs_put {H : Hp} {j : Nat} {b b' : Blk} {x : Value} {L : List UInt8} (hb : H.at j = some b) (hno : allU8 b.cs = false) (h : BS H x L) : BS (H.put j b') x L := by
  cases h with
  | none => exact .none
  | some hb2 hs hl ho hu =>
    refine .some ((Hp.at_put_ne ?_).trans hb2) hs hl ho hu
    rintro rfl
    rw [hb] at hb2
    injection hb2 with hb2
    subst hb2
    rw [hu] at hno
    cases hno
/-- A reader in the heap. -/
structure RG (T : TypeId) (H : Hp) (g : Nat) (p : Option Addr) (c : Nat) (s : RdS) : Prop where
  hg : H.at g = some (rdBlk T (.slice p s.l.length c) s.e)
  hb : BS H (.slice p s.l.length c) s.l
  hl : s.l.length ≤ 140737488355328
theorem rg_mk {T : TypeId} {H : Hp} {g : Nat} {p : Option Addr} {c : Nat} {s : RdS} {b : Blk} (hg : H.at g = some b) (e : b = rdBlk T (.slice p s.l.length c) s.e) (hb : BS H (.slice p s.l.length c) s.l) (hl : s.l.length ≤ 140737488355328) : RG T H g p c s := ⟨hg.trans (congrArg some e), hb, hl⟩
theorem bsk_put {H : Hp} {j : Nat} {b b' : Blk} (hb : H.at j = some b) (hno : allU8 b.cs = false) : BSk H (H.put j b') := fun _ _ h => bs_put hb hno h
theorem rg_ne {H : Hp} {T : TypeId} {g j : Nat} {p : Option Addr} {c : Nat} {s : RdS} {b b' : Blk} (h : RG T H g p c s) (hb : H.at j = some b) (hne : j ≠ g) (hno : allU8 b.cs = false) : RG T (H.put j b') g p c s := ⟨(Hp.at_put_ne hne).trans h.hg, bs_put hb hno h.hb, h.hl⟩
theorem rg_ext {T : TypeId} {H H' : Hp} {g : Nat} {p : Option Addr} {c : Nat} {s : RdS} (h : RG T H g p c s) (k : HExt [] H H') : RG T H' g p c s := ⟨(k.eq g (Hp.at_lt h.hg) (by intro h; cases h)).trans h.hg, h.hb.ext k, h.hl⟩
set_option maxHeartbeats 4000000 in
set_option maxRecDepth 100000 in
set_option linter.unusedSimpArgs false in
theorem g_next (H : Hp) (p : Option Addr) (n c : Nat) (L : List UInt8) (hb : BS H (.slice p n c) L) (hn : n ≤ 9223372036854775000) : GCalls Try.prog 152 [.slice p n c] [] H fun v H' => v = .tuple #[.int .u64 ((next L).1 : Int), .int .i64 ((next L).2.1 : Int), .int .i64 ((next L).2.2 : Int)] ∧ H' = H := by
  refine GCalls.plain1 hb (fun _ => .tuple (.cons (.int _ _) (.cons (.int _ _) (.cons (.int _ _) .nil)))) fun A c' w h1 h2 h3 h4 h5 => ?_
  refine (next_any A n c' _ L w h1 hn h5).mono fun e w' ⟨e1, e2⟩ => ⟨e1, ?_⟩
  subst e2
  exact Below.refl _ _
set_option maxHeartbeats 4000000 in
set_option maxRecDepth 100000 in
set_option linter.unusedSimpArgs false in
theorem g_failed (H : Hp) (g : Nat) (p : Option Addr) (c : Nat) (s : RdS) (h : RG 199 H g p c s) : GCalls Try.prog 124 [.pointer (some ⟨g, 0, none⟩)] [] H fun v H' => v = .int .i64 (s.e : Int) ∧ H' = H := by
  have hg := h.hg
  unfold rdBlk at hg
  refine GCalls.body tab_is Try.func124 rfl Try.results124 Try.ntmps124 (by simp) ?_ ?_
  · first | (intro _ h; cases h; done) | (simp; done) | (simp; omega) | (intro i hi; simp at hi; rcases hi with rfl | rfl <;> omega) | (intro i hi; simp at hi; rcases hi with rfl | rfl | rfl <;> omega)
  focus
    refine GWP.seq ?_
    refine GWP.region ?_
    refine GOps.r rfl rfl rfl rfl (grd_assign rfl rfl) ?_
    refine GOps.nil ?_
    refine GWP.seq ?_
    refine GWP.seq ?_
    refine GWP.region ?_
    refine GOps.r rfl rfl rfl rfl (grd_move rfl rfl) ?_
    refine GOps.r rfl rfl rfl rfl (grd_peql tab_is rfl rfl rfl rfl rfl) ?_
    refine GOps.nil ?_
    refine GWP.cond_f rfl ?_ ?_
    · simp; done
    refine GWP.skip ?_
    refine GWP.seq ?_
    refine GWP.region ?_
    refine GOps.r rfl rfl rfl rfl (grd_move rfl rfl) ?_
    refine GOps.r rfl rfl rfl rfl (grd_nil rfl rfl) ?_
    refine GOps.r rfl rfl rfl rfl (grd_fieldAddr tab_is rfl rfl rfl rfl rfl) ?_
    focus
      refine GOps.r rfl rfl rfl rfl (grd_load1 (b := ?_) (v := ?_) tab_is rfl rfl rfl rfl ?_ ?_) ?_
      rotate_left 2
      · assumption
      · rfl
    refine GOps.r rfl rfl rfl rfl (grd_assign rfl rfl) ?_
    refine GOps.nil ?_
    refine GWP.ret ?_
    refine ⟨_, .one rfl, ?_⟩
    refine ⟨?_, ?_⟩
    · rfl
    · rfl
set_option maxHeartbeats 4000000 in
set_option maxRecDepth 100000 in
set_option linter.unusedSimpArgs false in
theorem g_fail (H : Hp) (g : Nat) (p : Option Addr) (c : Nat) (s : RdS) (k : Int) (h : RG 199 H g p c s) (hk : s.e = 0) : GCalls Try.prog 153 [.pointer (some ⟨g, 0, none⟩), .int .i64 k] [g] H fun v H' => v = .tuple #[] ∧ H' = H.put g (rdBlk 199 (.slice p s.l.length c) k) := by
  have hg := h.hg
  unfold rdBlk at hg
  have hlt := Hp.at_lt hg
  refine GCalls.body tab_is Try.func153 rfl Try.results153 Try.ntmps153 (by simp) ?_ ?_
  · first | (intro _ h; cases h; done) | (simp; done) | (simp; omega) | (intro i hi; simp at hi; rcases hi with rfl | rfl <;> omega) | (intro i hi; simp at hi; rcases hi with rfl | rfl | rfl <;> omega)
  focus
    refine GWP.seq ?_
    refine GWP.region ?_
    refine GOps.r rfl rfl rfl rfl (grd_move rfl rfl) ?_
    refine GOps.r rfl rfl rfl rfl (grd_nil rfl rfl) ?_
    refine GOps.r rfl rfl rfl rfl (grd_fieldAddr tab_is rfl rfl rfl rfl rfl) ?_
    focus
      refine GOps.r rfl rfl rfl rfl (grd_load1 (b := ?_) (v := ?_) tab_is rfl rfl rfl rfl ?_ ?_) ?_
      rotate_left 2
      · assumption
      · rfl
    refine GOps.r rfl rfl rfl rfl (grd_eql rfl rfl rfl) ?_
    refine GOps.nil ?_
    refine GWP.cond_t rfl ?_ ?_
    · exact decide_eq_true (by omega)
    refine GWP.region ?_
    refine GOps.r rfl rfl rfl rfl (grd_move rfl rfl) ?_
    refine GOps.r rfl rfl rfl rfl (grd_move rfl rfl) ?_
    refine GOps.r rfl rfl rfl rfl (grd_nil rfl rfl) ?_
    refine GOps.r rfl rfl rfl rfl (grd_fieldAddr tab_is rfl rfl rfl rfl rfl) ?_
    focus
      refine GOps.s rfl rfl rfl (gop_store1 (b := ?_) tab_is rfl rfl rfl rfl rfl rfl ?_ ?_ ?_ ?_) ?_
      rotate_left 1
      · assumption
      · rfl
      · exact Nat.le_of_ble_eq_true rfl
      · exact .inl (by simp)
    refine GOps.nil ?_
    refine ⟨_, .none, ?_⟩
    refine ⟨?_, ?_⟩
    · rfl
    · rfl
theorem rg_put {H : Hp} {T : TypeId} {g : Nat} {p : Option Addr} {c : Nat} {s : RdS} (h : RG T H g p c s) {p' : Option Addr} {n' c' : Nat} {s' : RdS} (hb : BS H (.slice p' n' c') s'.l) (hn : n' = s'.l.length) (hl : s'.l.length ≤ 140737488355328) {e : Int} (he : e = (s'.e : Int)) : RG T (H.put g (rdBlk T (.slice p' n' c') e)) g p' c' s' := by
  subst he hn
  exact ⟨Hp.at_put_eq (Hp.at_lt h.hg), bs_put h.hg rfl hb, hl⟩
theorem rg_bsk {H : Hp} {T : TypeId} {g : Nat} {p : Option Addr} {c : Nat} {s : RdS} (h : RG T H g p c s) (v : Value) (e : Int) : BSk H (H.put g (rdBlk T v e)) := fun _ _ q => bs_put h.hg rfl q
set_option maxHeartbeats 4000000 in
set_option maxRecDepth 100000 in
set_option linter.unusedSimpArgs false in
theorem g_fail2 (H : Hp) (g : Nat) (p : Option Addr) (c : Nat) (s : RdS) (k : Int) (h : RG 199 H g p c s) (hk : s.e = 0) (e : Nat) (he : k = (e : Int)) : GCalls Try.prog 153 [.pointer (some ⟨g, 0, none⟩), .int .i64 k] [g] H fun v H' => v = .tuple #[] ∧ RG 199 H' g p c ⟨s.l, e⟩ ∧ BSk H H' ∧ HExt [g] H H' :=
  (g_fail H g p c s k h hk).mono fun v H' ⟨e1, e2⟩ => by
    subst e1 e2
    exact ⟨rfl, rg_put (s' := ⟨s.l, e⟩) h h.hb rfl h.hl he, rg_bsk h _ _, (HExt.refl _ _).put (.inl (by simp))⟩
theorem next_size (l : List UInt8) (h : (next l).2.2 = 0) : (next l).2.1 ≤ l.length := by
  generalize hn : next l = R at h ⊢
  obtain ⟨r1, r2, r3⟩ := R
  simp only at h
  subst h
  exact (next_ok hn).1
section
variable {s : RdS} {most : Int}
theorem num1 (h : (s.e : Int) ≠ 0) : s.number most.toNat = (0, s) := if_pos (by omega)
theorem num2 (h : ¬ (s.e : Int) ≠ 0) (h2 : ¬ ((next s.l).2.2 : Int) = 0) : s.number most.toNat = (0, ⟨s.l, (next s.l).2.2⟩) := by rw [RdS.number, if_neg (by omega), if_pos (by omega)]
theorem num3 (h0 : 0 ≤ most) (h : ¬ (s.e : Int) ≠ 0) (h2 : ((next s.l).2.2 : Int) = 0) (h3 : most < (next s.l).1) : s.number most.toNat = (0, ⟨s.l, 5⟩) := by
  rw [RdS.number, if_neg (by omega), if_neg (by omega), if_pos (by omega)]
theorem num4 (h : ¬ (s.e : Int) ≠ 0) (h2 : ((next s.l).2.2 : Int) = 0) (h3 : ¬ most < (next s.l).1) : s.number most.toNat = ((next s.l).1, ⟨s.l.drop (next s.l).2.1, 0⟩) := by rw [RdS.number, if_neg (by omega), if_neg (by omega), if_neg (by omega)]
end
set_option maxHeartbeats 4000000 in
set_option maxRecDepth 100000 in
set_option linter.unusedSimpArgs false in
theorem g_number (H : Hp) (g : Nat) (p : Option Addr) (c : Nat) (s : RdS) (most : Int) (h0 : 0 ≤ most) (h : RG 199 H g p c s) : GCalls Try.prog 123 [.pointer (some ⟨g, 0, none⟩), .int .u64 most] [g] H fun v H' => v = .int .u64 ((s.number most.toNat).1 : Int) ∧ (∃ p' c', RG 199 H' g p' c' (s.number most.toNat).2) ∧ BSk H H' ∧ HExt [g] H H' := by
  have hg := h.hg
  have hb := h.hb
  have hl := h.hl
  unfold rdBlk at hg
  have hlt := Hp.at_lt hg
  have hsz := next_size s.l
  refine GCalls.body tab_is Try.func123 rfl Try.results123 Try.ntmps123 (by simp) ?_ ?_
  · first | (intro _ h; cases h; done) | (simp; done) | (simp; omega) | (intro i hi; simp at hi; rcases hi with rfl | rfl <;> omega) | (intro i hi; simp at hi; rcases hi with rfl | rfl | rfl <;> omega)
  focus
    refine GWP.seq ?_
    refine GWP.region ?_
    refine GOps.r rfl rfl rfl rfl (grd_assign rfl rfl) ?_
    refine GOps.nil ?_
    refine GWP.seq ?_
    refine GWP.seq ?_
    refine GWP.region ?_
    refine GOps.r rfl rfl rfl rfl (grd_move rfl rfl) ?_
    refine GOps.w1 rfl rfl rfl rfl (gop_call rfl Try.call124 rfl ?_ (g_failed H g p c s h)) ?_
    · intro _ h; cases h; done
    refine GOps.r rfl rfl rfl rfl (grd_neq rfl rfl rfl) ?_
    refine GOps.nil ?_
    refine GWP.cond rfl (fun c1 => ?_) (fun c1 => ?_)
    simp only [beq_true, beq_false, Bool.not_true, Bool.not_false, Bool.not_eq_true', Bool.not_eq_false', decide_eq_true_eq, decide_eq_false_iff_not] at c1
    refine GWP.seq ?_
    refine GWP.region ?_
    refine GOps.r rfl rfl rfl rfl (grd_assign rfl rfl) ?_
    refine GOps.nil ?_
    refine GWP.ret ?_
    refine ⟨_, .one rfl, ?_⟩
    refine ⟨?_, ?_⟩
    rotate_left 1
    refine ⟨?_, ?_⟩
    rotate_left 1
    refine ⟨?_, ?_⟩
    · exact BSk.refl _
    · exact HExt.refl _ _
    simp only [beq_true, beq_false, Bool.not_true, Bool.not_false, Bool.not_eq_true', Bool.not_eq_false', decide_eq_true_eq, decide_eq_false_iff_not] at c1
    refine GWP.skip ?_
    refine GWP.seq ?_
    refine GWP.region ?_
    refine GOps.r rfl rfl rfl rfl (grd_move rfl rfl) ?_
    refine GOps.r rfl rfl rfl rfl (grd_nil rfl rfl) ?_
    refine GOps.r rfl rfl rfl rfl (grd_fieldAddr tab_is rfl rfl rfl rfl rfl) ?_
    focus
      refine GOps.r rfl rfl rfl rfl (grd_load1 (b := ?_) (v := ?_) tab_is rfl rfl rfl rfl ?_ ?_) ?_
      rotate_left 2
      · assumption
      · rfl
    focus
      refine GOps.w1 rfl rfl rfl rfl (gop_call rfl Try.call152 rfl ?_ (g_next _ _ _ _ ?_ ?_ ?_)) ?_
      · intro _ h; cases h; done
      rotate_left 1
      · assumption
      · omega
    refine GOps.r rfl rfl rfl rfl (grd_move rfl rfl) ?_
    focus
      refine GOps.r rfl rfl rfl rfl (grd_extract (v := ?_) rfl rfl ?_) ?_
      rotate_left 1
      · simp only [List.getElem?_toArray, List.getElem?_cons_zero, List.getElem?_cons_succ]; rfl
    focus
      refine GOps.r rfl rfl rfl rfl (grd_extract (v := ?_) rfl rfl ?_) ?_
      rotate_left 1
      · simp only [List.getElem?_toArray, List.getElem?_cons_zero, List.getElem?_cons_succ]; rfl
    focus
      refine GOps.r rfl rfl rfl rfl (grd_extract (v := ?_) rfl rfl ?_) ?_
      rotate_left 1
      · simp only [List.getElem?_toArray, List.getElem?_cons_zero, List.getElem?_cons_succ]; rfl
    refine GOps.r rfl rfl rfl rfl (grd_assign rfl rfl) ?_
    refine GOps.r rfl rfl rfl rfl (grd_assign rfl rfl) ?_
    refine GOps.r rfl rfl rfl rfl (grd_assign rfl rfl) ?_
    refine GOps.nil ?_
    refine GWP.seq ?_
    refine GWP.seq ?_
    refine GWP.region ?_
    refine GOps.r rfl rfl rfl rfl (grd_move rfl rfl) ?_
    refine GOps.r rfl rfl rfl rfl (grd_eql rfl rfl rfl) ?_
    refine GOps.r rfl rfl rfl rfl (grd_move rfl rfl) ?_
    refine GOps.split rfl rfl (fun c2 => ?_) (fun c2 => ?_)
    simp only [beq_true, beq_false, Bool.not_true, Bool.not_false, Bool.not_eq_true', Bool.not_eq_false', decide_eq_true_eq, decide_eq_false_iff_not] at c2
    refine GOps.take rfl rfl ?_ ?_
    · exact beq_iff_eq.2 (decide_eq_true (by assumption))
    refine GOps.r rfl rfl rfl rfl (grd_move rfl rfl) ?_
    refine GOps.take rfl rfl ?_ ?_
    · exact beq_iff_eq.2 (decide_eq_true (by assumption))
    refine GOps.r rfl rfl rfl rfl (grd_move rfl rfl) ?_
    refine GOps.take rfl rfl ?_ ?_
    · exact beq_iff_eq.2 (decide_eq_true (by assumption))
    refine GOps.r rfl rfl rfl rfl (grd_gtr rfl rfl rfl) ?_
    refine GOps.r rfl rfl rfl rfl (grd_pick_t rfl rfl ?_ rfl) ?_
    · exact decide_eq_true (by assumption)
    refine GOps.nil ?_
    refine GWP.cond rfl (fun c3 => ?_) (fun c3 => ?_)
    simp only [beq_true, beq_false, Bool.not_true, Bool.not_false, Bool.not_eq_true', Bool.not_eq_false', decide_eq_true_eq, decide_eq_false_iff_not] at c3
    refine GWP.region ?_
    refine GOps.r rfl rfl rfl rfl (grd_assign rfl rfl) ?_
    refine GOps.nil ?_
    refine GWP.seq ?_
    refine GWP.seq ?_
    refine GWP.region ?_
    refine GOps.r rfl rfl rfl rfl (grd_move rfl rfl) ?_
    refine GOps.r rfl rfl rfl rfl (grd_neq rfl rfl rfl) ?_
    refine GOps.nil ?_
    refine GWP.cond_t rfl ?_ ?_
    · exact decide_eq_true (by omega)
    refine GWP.seq ?_
    refine GWP.region ?_
    refine GOps.r rfl rfl rfl rfl (grd_move rfl rfl) ?_
    refine GOps.r rfl rfl rfl rfl (grd_move rfl rfl) ?_
    refine GOps.w1 rfl rfl rfl rfl (gop_call rfl Try.call153 rfl ?_ (g_fail _ _ _ _ _ _ h ?_)) ?_
    · simp [Ctx.may]; done
    · omega
    refine GOps.nil ?_
    refine GWP.seq ?_
    refine GWP.region ?_
    refine GOps.r rfl rfl rfl rfl (grd_assign rfl rfl) ?_
    refine GOps.nil ?_
    refine GWP.ret ?_
    refine ⟨_, .one rfl, ?_⟩
    refine ⟨?_, ?_⟩
    rotate_left 1
    refine ⟨?_, ?_⟩
    rotate_left 1
    refine ⟨?_, ?_⟩
    · exact rg_bsk h _ _
    refine HExt.put ?_ ?_
    · exact HExt.refl _ _
    · exact .inl (by simp)
    simp only [beq_true, beq_false, Bool.not_true, Bool.not_false, Bool.not_eq_true', Bool.not_eq_false', decide_eq_true_eq, decide_eq_false_iff_not] at c3
    refine GWP.skip ?_
    refine GWP.seq ?_
    refine GWP.seq ?_
    refine GWP.region ?_
    refine GOps.r rfl rfl rfl rfl (grd_move rfl rfl) ?_
    refine GOps.r rfl rfl rfl rfl (grd_neq rfl rfl rfl) ?_
    refine GOps.nil ?_
    refine GWP.cond_f rfl ?_ ?_
    · exact decide_eq_false (by omega)
    refine GWP.skip ?_
    refine GWP.seq ?_
    refine GWP.region ?_
    refine GOps.r rfl rfl rfl rfl (grd_move rfl rfl) ?_
    refine GOps.r rfl rfl rfl rfl (grd_move rfl rfl) ?_
    refine GOps.r rfl rfl rfl rfl (grd_nil rfl rfl) ?_
    refine GOps.r rfl rfl rfl rfl (grd_fieldAddr tab_is rfl rfl rfl rfl rfl) ?_
    focus
      refine GOps.r rfl rfl rfl rfl (grd_load1 (b := ?_) (v := ?_) tab_is rfl rfl rfl rfl ?_ ?_) ?_
      rotate_left 2
      · assumption
      · rfl
    refine GOps.r rfl rfl rfl rfl (grd_move rfl rfl) ?_
    focus
      refine gops_bs rfl rfl rfl rfl (grd_slBS (l := ?_) (h := ?_) (m2 := ?_) (L := ?_) (M := ?_) tab_is rfl rfl rfl rfl ?_ ?_ ?_ ?_ ?_ ?_ ?_) ?_
      rotate_left 5
      · assumption
      · refine gbound_tmp rfl ?_; exact rfl
      · exact rfl
      · omega
      · omega
      · rfl
      · refine Eq.trans (List.take_of_length_le ?_) ?_; rotate_left 1; rfl; (simp; done)
    intro pc4 cc4 c4
    have c4n := BS.len c4
    refine GOps.r rfl rfl rfl rfl (grd_nil rfl rfl) ?_
    refine GOps.r rfl rfl rfl rfl (grd_fieldAddr tab_is rfl rfl rfl rfl rfl) ?_
    focus
      refine GOps.s rfl rfl rfl (gop_store1 (b := ?_) tab_is rfl rfl rfl rfl rfl rfl ?_ ?_ ?_ ?_) ?_
      rotate_left 1
      · assumption
      · rfl
      · exact Nat.le_of_ble_eq_true rfl
      · exact .inl (by simp)
    refine GOps.nil ?_
    refine GWP.seq ?_
    refine GWP.region ?_
    refine GOps.r rfl rfl rfl rfl (grd_move rfl rfl) ?_
    refine GOps.r rfl rfl rfl rfl (grd_assign rfl rfl) ?_
    refine GOps.nil ?_
    refine GWP.ret ?_
    refine ⟨_, .one rfl, ?_⟩
    refine ⟨?_, ?_⟩
    rotate_left 1
    refine ⟨?_, ?_⟩
    rotate_left 1
    refine ⟨?_, ?_⟩
    · exact rg_bsk h _ _
    refine HExt.put ?_ ?_
    · exact HExt.refl _ _
    · exact .inl (by simp)
    simp only [beq_true, beq_false, Bool.not_true, Bool.not_false, Bool.not_eq_true', Bool.not_eq_false', decide_eq_true_eq, decide_eq_false_iff_not] at c2
    refine GOps.no rfl ?_ rfl rfl ?_
    · exact beq_eq_false_iff_ne.2 (by rw [decide_eq_false (by assumption)]; decide)
    refine GOps.no rfl ?_ rfl rfl ?_
    · exact beq_eq_false_iff_ne.2 (by rw [decide_eq_false (by assumption)]; decide)
    refine GOps.no rfl ?_ rfl rfl ?_
    · exact beq_eq_false_iff_ne.2 (by rw [decide_eq_false (by assumption)]; decide)
    refine GOps.r rfl rfl rfl rfl (grd_pick_f rfl rfl ?_ rfl) ?_
    · exact decide_eq_false (by assumption)
    refine GOps.nil ?_
    refine GWP.cond_f rfl ?_ ?_
    · with_reducible rfl
    refine GWP.skip ?_
    refine GWP.seq ?_
    refine GWP.seq ?_
    refine GWP.region ?_
    refine GOps.r rfl rfl rfl rfl (grd_move rfl rfl) ?_
    refine GOps.r rfl rfl rfl rfl (grd_neq rfl rfl rfl) ?_
    refine GOps.nil ?_
    refine GWP.cond_t rfl ?_ ?_
    · exact decide_eq_true (by assumption)
    refine GWP.seq ?_
    refine GWP.region ?_
    refine GOps.r rfl rfl rfl rfl (grd_move rfl rfl) ?_
    refine GOps.r rfl rfl rfl rfl (grd_move rfl rfl) ?_
    refine GOps.w1 rfl rfl rfl rfl (gop_call rfl Try.call153 rfl ?_ (g_fail _ _ _ _ _ _ h ?_)) ?_
    · simp [Ctx.may]; done
    · omega
    refine GOps.nil ?_
    refine GWP.seq ?_
    refine GWP.region ?_
    refine GOps.r rfl rfl rfl rfl (grd_assign rfl rfl) ?_
    refine GOps.nil ?_
    refine GWP.ret ?_
    refine ⟨_, .one rfl, ?_⟩
    refine ⟨?_, ?_⟩
    rotate_left 1
    refine ⟨?_, ?_⟩
    rotate_left 1
    refine ⟨?_, ?_⟩
    · exact rg_bsk h _ _
    refine HExt.put ?_ ?_
    · exact HExt.refl _ _
    · exact .inl (by simp)
  · rw [num1 c1]; rfl
  · exact ⟨_, _, by rw [num1 c1]; exact h⟩
  · rw [num3 h0 c1 c2 c3]; rfl
  · exact ⟨_, _, by rw [num3 h0 c1 c2 c3]; exact rg_put (s' := ⟨s.l, 5⟩) h hb rfl hl rfl⟩
  · rw [num4 c1 c2 c3]
  · exact ⟨_, _, by rw [num4 c1 c2 c3]; exact rg_put (s' := ⟨s.l.drop (next s.l).2.1, 0⟩) h c4 (by simp) (by simp only [List.length_drop]; omega) (by simp only; omega)⟩
  · rw [num2 c1 c2]; rfl
  · exact ⟨_, _, by rw [num2 c1 c2]; exact rg_put (s' := ⟨s.l, (next s.l).2.2⟩) h hb rfl hl rfl⟩
theorem fin1 {s : RdS} (h : (s.e : Int) ≠ 0) : s.fin = s.e := if_pos (by omega)
theorem fin2 {s : RdS} (h : ¬ (s.e : Int) ≠ 0) (h2 : 0 < (s.l.length : Int)) : s.fin = 5 := by rw [RdS.fin, if_neg (by omega), if_pos (by omega)]
theorem fin3 {s : RdS} (h : ¬ (s.e : Int) ≠ 0) (h2 : ¬ 0 < (s.l.length : Int)) : s.fin = 0 := by rw [RdS.fin, if_neg (by omega), if_neg (by omega)]
set_option maxHeartbeats 4000000 in
set_option maxRecDepth 100000 in
set_option linter.unusedSimpArgs false in
theorem g_end (H : Hp) (g : Nat) (p : Option Addr) (c : Nat) (s : RdS) (h : RG 199 H g p c s) : GCalls Try.prog 67 [.pointer (some ⟨g, 0, none⟩)] [] H fun v H' => v = .int .i64 (s.fin : Int) ∧ H' = H := by
  have hg := h.hg
  unfold rdBlk at hg
  refine GCalls.body tab_is Try.func67 rfl Try.results67 Try.ntmps67 (by simp) ?_ ?_
  · first | (intro _ h; cases h; done) | (simp; done) | (simp; omega) | (intro i hi; simp at hi; rcases hi with rfl | rfl <;> omega) | (intro i hi; simp at hi; rcases hi with rfl | rfl | rfl <;> omega)
  focus
    refine GWP.seq ?_
    refine GWP.region ?_
    refine GOps.r rfl rfl rfl rfl (grd_assign rfl rfl) ?_
    refine GOps.nil ?_
    refine GWP.seq ?_
    refine GWP.seq ?_
    refine GWP.region ?_
    refine GOps.r rfl rfl rfl rfl (grd_move rfl rfl) ?_
    refine GOps.w1 rfl rfl rfl rfl (gop_call rfl Try.call124 rfl ?_ (g_failed H g p c s h)) ?_
    · intro _ h; cases h; done
    refine GOps.r rfl rfl rfl rfl (grd_assign rfl rfl) ?_
    refine GOps.nil ?_
    refine GWP.seq ?_
    refine GWP.region ?_
    refine GOps.r rfl rfl rfl rfl (grd_move rfl rfl) ?_
    refine GOps.r rfl rfl rfl rfl (grd_neq rfl rfl rfl) ?_
    refine GOps.nil ?_
    refine GWP.cond rfl (fun d1 => ?_) (fun d1 => ?_)
    simp only [beq_true, beq_false, Bool.not_true, Bool.not_false, Bool.not_eq_true', Bool.not_eq_false', decide_eq_true_eq, decide_eq_false_iff_not] at d1
    refine GWP.seq ?_
    refine GWP.region ?_
    refine GOps.r rfl rfl rfl rfl (grd_move rfl rfl) ?_
    refine GOps.r rfl rfl rfl rfl (grd_assign rfl rfl) ?_
    refine GOps.nil ?_
    refine GWP.ret ?_
    refine ⟨_, .one rfl, ?_⟩
    refine ⟨?_, ?_⟩
    rotate_left 1
    · rfl
    simp only [beq_true, beq_false, Bool.not_true, Bool.not_false, Bool.not_eq_true', Bool.not_eq_false', decide_eq_true_eq, decide_eq_false_iff_not] at d1
    refine GWP.skip ?_
    refine GWP.seq ?_
    refine GWP.seq ?_
    refine GWP.region ?_
    refine GOps.r rfl rfl rfl rfl (grd_move rfl rfl) ?_
    refine GOps.r rfl rfl rfl rfl (grd_nil rfl rfl) ?_
    refine GOps.r rfl rfl rfl rfl (grd_fieldAddr tab_is rfl rfl rfl rfl rfl) ?_
    focus
      refine GOps.r rfl rfl rfl rfl (grd_load1 (b := ?_) (v := ?_) tab_is rfl rfl rfl rfl ?_ ?_) ?_
      rotate_left 2
      · assumption
      · rfl
    refine GOps.r rfl rfl rfl rfl (grd_len tab_is rfl rfl rfl rfl rfl) ?_
    refine GOps.r rfl rfl rfl rfl (grd_gtr rfl rfl rfl) ?_
    refine GOps.nil ?_
    refine GWP.cond rfl (fun d2 => ?_) (fun d2 => ?_)
    simp only [beq_true, beq_false, Bool.not_true, Bool.not_false, Bool.not_eq_true', Bool.not_eq_false', decide_eq_true_eq, decide_eq_false_iff_not] at d2
    refine GWP.seq ?_
    refine GWP.region ?_
    refine GOps.r rfl rfl rfl rfl (grd_assign rfl rfl) ?_
    refine GOps.nil ?_
    refine GWP.ret ?_
    refine ⟨_, .one rfl, ?_⟩
    refine ⟨?_, ?_⟩
    rotate_left 1
    · rfl
    simp only [beq_true, beq_false, Bool.not_true, Bool.not_false, Bool.not_eq_true', Bool.not_eq_false', decide_eq_true_eq, decide_eq_false_iff_not] at d2
    refine GWP.skip ?_
    refine GWP.seq ?_
    refine GWP.region ?_
    refine GOps.r rfl rfl rfl rfl (grd_assign rfl rfl) ?_
    refine GOps.nil ?_
    refine GWP.ret ?_
    refine ⟨_, .one rfl, ?_⟩
    refine ⟨?_, ?_⟩
    rotate_left 1
    · rfl
  · rw [fin1 d1]
  · rw [fin2 d1 d2]; rfl
  · rw [fin3 d1 d2]; rfl
theorem number_le' (s : RdS) (m : Nat) : (s.number m).1 ≤ m := by
  unfold RdS.number
  split
  · exact Nat.zero_le _
  · split
    · exact Nat.zero_le _
    · split
      · exact Nat.zero_le _
      · simp only; omega
set_option maxHeartbeats 4000000 in
set_option maxRecDepth 100000 in
set_option linter.unusedSimpArgs false in
theorem g_rnext (H : Hp) (p : Option Addr) (n c : Nat) (L : List UInt8) (hb : BS H (.slice p n c) L) (hn : n ≤ 9223372036854775000) : GCalls Try.prog 154 [.slice p n c] [] H fun v H' => v = .tuple #[.int .u64 ((next L).1 : Int), .int .i64 ((next L).2.1 : Int), .int .i64 ((next L).2.2 : Int)] ∧ H' = H := by
  refine GCalls.plain1 hb (fun _ => .tuple (.cons (.int _ _) (.cons (.int _ _) (.cons (.int _ _) .nil)))) fun A c' w h1 h2 h3 h4 h5 => ?_
  refine (refnext_any A n c' _ L w h1 hn h5).mono fun e w' ⟨e1, e2⟩ => ⟨e1, ?_⟩
  subst e2
  exact Below.refl _ _
set_option maxHeartbeats 4000000 in
set_option maxRecDepth 100000 in
set_option linter.unusedSimpArgs false in
theorem g_rnumber (H : Hp) (g : Nat) (p : Option Addr) (c : Nat) (s : RdS) (most : Int) (h0 : 0 ≤ most) (h : RG 119 H g p c s) : GCalls Try.prog 126 [.pointer (some ⟨g, 0, none⟩), .int .u64 most] [g] H fun v H' => v = .int .u64 ((s.number most.toNat).1 : Int) ∧ (∃ p' c', RG 119 H' g p' c' (s.number most.toNat).2) ∧ BSk H H' ∧ HExt [g] H H' := by
  have hg := h.hg
  have hb := h.hb
  have hl := h.hl
  unfold rdBlk at hg
  have hlt := Hp.at_lt hg
  have hsz := next_size s.l
  refine GCalls.body tab_is Try.func126 rfl Try.results126 Try.ntmps126 (by simp) ?_ ?_
  · first | (intro _ h; cases h; done) | (simp; done) | (simp; omega) | (intro i hi; simp at hi; rcases hi with rfl | rfl <;> omega) | (intro i hi; simp at hi; rcases hi with rfl | rfl | rfl <;> omega)
  focus
    refine GWP.seq ?_
    refine GWP.region ?_
    refine GOps.r rfl rfl rfl rfl (grd_assign rfl rfl) ?_
    refine GOps.nil ?_
    refine GWP.seq ?_
    refine GWP.seq ?_
    refine GWP.region ?_
    refine GOps.r rfl rfl rfl rfl (grd_move rfl rfl) ?_
    refine GOps.r rfl rfl rfl rfl (grd_nil rfl rfl) ?_
    refine GOps.r rfl rfl rfl rfl (grd_fieldAddr tab_is rfl rfl rfl rfl rfl) ?_
    focus
      refine GOps.r rfl rfl rfl rfl (grd_load1 (b := ?_) (v := ?_) tab_is rfl rfl rfl rfl ?_ ?_) ?_
      rotate_left 2
      · assumption
      · rfl
    refine GOps.r rfl rfl rfl rfl (grd_neq rfl rfl rfl) ?_
    refine GOps.nil ?_
    refine GWP.cond rfl (fun f1 => ?_) (fun f1 => ?_)
    simp only [beq_true, beq_false, Bool.not_true, Bool.not_false, Bool.not_eq_true', Bool.not_eq_false', decide_eq_true_eq, decide_eq_false_iff_not] at f1
    refine GWP.seq ?_
    refine GWP.region ?_
    refine GOps.r rfl rfl rfl rfl (grd_assign rfl rfl) ?_
    refine GOps.nil ?_
    refine GWP.ret ?_
    refine ⟨_, .one rfl, ?_⟩
    refine ⟨?_, ?_⟩
    rotate_left 1
    refine ⟨?_, ?_⟩
    rotate_left 1
    refine ⟨?_, ?_⟩
    · exact BSk.refl _
    · exact HExt.refl _ _
    simp only [beq_true, beq_false, Bool.not_true, Bool.not_false, Bool.not_eq_true', Bool.not_eq_false', decide_eq_true_eq, decide_eq_false_iff_not] at f1
    refine GWP.skip ?_
    refine GWP.seq ?_
    refine GWP.region ?_
    refine GOps.r rfl rfl rfl rfl (grd_move rfl rfl) ?_
    refine GOps.r rfl rfl rfl rfl (grd_nil rfl rfl) ?_
    refine GOps.r rfl rfl rfl rfl (grd_fieldAddr tab_is rfl rfl rfl rfl rfl) ?_
    focus
      refine GOps.r rfl rfl rfl rfl (grd_load1 (b := ?_) (v := ?_) tab_is rfl rfl rfl rfl ?_ ?_) ?_
      rotate_left 2
      · assumption
      · rfl
    focus
      refine GOps.w1 rfl rfl rfl rfl (gop_call rfl Try.call154 rfl ?_ (g_rnext _ _ _ _ ?_ ?_ ?_)) ?_
      · intro _ h; cases h; done
      rotate_left 1
      · assumption
      · omega
    refine GOps.r rfl rfl rfl rfl (grd_move rfl rfl) ?_
    focus
      refine GOps.r rfl rfl rfl rfl (grd_extract (v := ?_) rfl rfl ?_) ?_
      rotate_left 1
      · simp only [List.getElem?_toArray, List.getElem?_cons_zero, List.getElem?_cons_succ]; rfl
    focus
      refine GOps.r rfl rfl rfl rfl (grd_extract (v := ?_) rfl rfl ?_) ?_
      rotate_left 1
      · simp only [List.getElem?_toArray, List.getElem?_cons_zero, List.getElem?_cons_succ]; rfl
    focus
      refine GOps.r rfl rfl rfl rfl (grd_extract (v := ?_) rfl rfl ?_) ?_
      rotate_left 1
      · simp only [List.getElem?_toArray, List.getElem?_cons_zero, List.getElem?_cons_succ]; rfl
    refine GOps.r rfl rfl rfl rfl (grd_assign rfl rfl) ?_
    refine GOps.r rfl rfl rfl rfl (grd_assign rfl rfl) ?_
    refine GOps.r rfl rfl rfl rfl (grd_assign rfl rfl) ?_
    refine GOps.nil ?_
    refine GWP.seq ?_
    refine GWP.seq ?_
    refine GWP.region ?_
    refine GOps.r rfl rfl rfl rfl (grd_move rfl rfl) ?_
    refine GOps.r rfl rfl rfl rfl (grd_eql rfl rfl rfl) ?_
    refine GOps.r rfl rfl rfl rfl (grd_move rfl rfl) ?_
    refine GOps.split rfl rfl (fun f2 => ?_) (fun f2 => ?_)
    simp only [beq_true, beq_false, Bool.not_true, Bool.not_false, Bool.not_eq_true', Bool.not_eq_false', decide_eq_true_eq, decide_eq_false_iff_not] at f2
    refine GOps.take rfl rfl ?_ ?_
    · exact beq_iff_eq.2 (decide_eq_true (by assumption))
    refine GOps.r rfl rfl rfl rfl (grd_move rfl rfl) ?_
    refine GOps.take rfl rfl ?_ ?_
    · exact beq_iff_eq.2 (decide_eq_true (by assumption))
    refine GOps.r rfl rfl rfl rfl (grd_move rfl rfl) ?_
    refine GOps.take rfl rfl ?_ ?_
    · exact beq_iff_eq.2 (decide_eq_true (by assumption))
    refine GOps.r rfl rfl rfl rfl (grd_gtr rfl rfl rfl) ?_
    refine GOps.r rfl rfl rfl rfl (grd_pick_t rfl rfl ?_ rfl) ?_
    · exact decide_eq_true (by assumption)
    refine GOps.nil ?_
    refine GWP.cond rfl (fun f3 => ?_) (fun f3 => ?_)
    simp only [beq_true, beq_false, Bool.not_true, Bool.not_false, Bool.not_eq_true', Bool.not_eq_false', decide_eq_true_eq, decide_eq_false_iff_not] at f3
    refine GWP.region ?_
    refine GOps.r rfl rfl rfl rfl (grd_assign rfl rfl) ?_
    refine GOps.nil ?_
    refine GWP.seq ?_
    refine GWP.seq ?_
    refine GWP.region ?_
    refine GOps.r rfl rfl rfl rfl (grd_move rfl rfl) ?_
    refine GOps.r rfl rfl rfl rfl (grd_neq rfl rfl rfl) ?_
    refine GOps.nil ?_
    refine GWP.cond_t rfl ?_ ?_
    · exact decide_eq_true (by omega)
    refine GWP.seq ?_
    refine GWP.region ?_
    refine GOps.r rfl rfl rfl rfl (grd_move rfl rfl) ?_
    refine GOps.r rfl rfl rfl rfl (grd_move rfl rfl) ?_
    refine GOps.r rfl rfl rfl rfl (grd_nil rfl rfl) ?_
    refine GOps.r rfl rfl rfl rfl (grd_fieldAddr tab_is rfl rfl rfl rfl rfl) ?_
    focus
      refine GOps.s rfl rfl rfl (gop_store1 (b := ?_) tab_is rfl rfl rfl rfl rfl rfl ?_ ?_ ?_ ?_) ?_
      rotate_left 1
      · assumption
      · rfl
      · exact Nat.le_of_ble_eq_true rfl
      · exact .inl (by simp)
    refine GOps.nil ?_
    refine GWP.seq ?_
    refine GWP.region ?_
    refine GOps.r rfl rfl rfl rfl (grd_assign rfl rfl) ?_
    refine GOps.nil ?_
    refine GWP.ret ?_
    refine ⟨_, .one rfl, ?_⟩
    refine ⟨?_, ?_⟩
    rotate_left 1
    refine ⟨?_, ?_⟩
    rotate_left 1
    refine ⟨?_, ?_⟩
    · exact rg_bsk h _ _
    refine HExt.put ?_ ?_
    · exact HExt.refl _ _
    · exact .inl (by simp)
    simp only [beq_true, beq_false, Bool.not_true, Bool.not_false, Bool.not_eq_true', Bool.not_eq_false', decide_eq_true_eq, decide_eq_false_iff_not] at f3
    refine GWP.skip ?_
    refine GWP.seq ?_
    refine GWP.seq ?_
    refine GWP.region ?_
    refine GOps.r rfl rfl rfl rfl (grd_move rfl rfl) ?_
    refine GOps.r rfl rfl rfl rfl (grd_neq rfl rfl rfl) ?_
    refine GOps.nil ?_
    refine GWP.cond_f rfl ?_ ?_
    · exact decide_eq_false (by omega)
    refine GWP.skip ?_
    refine GWP.seq ?_
    refine GWP.region ?_
    refine GOps.r rfl rfl rfl rfl (grd_move rfl rfl) ?_
    refine GOps.r rfl rfl rfl rfl (grd_move rfl rfl) ?_
    refine GOps.r rfl rfl rfl rfl (grd_nil rfl rfl) ?_
    refine GOps.r rfl rfl rfl rfl (grd_fieldAddr tab_is rfl rfl rfl rfl rfl) ?_
    focus
      refine GOps.r rfl rfl rfl rfl (grd_load1 (b := ?_) (v := ?_) tab_is rfl rfl rfl rfl ?_ ?_) ?_
      rotate_left 2
      · assumption
      · rfl
    refine GOps.r rfl rfl rfl rfl (grd_move rfl rfl) ?_
    focus
      refine gops_bs rfl rfl rfl rfl (grd_slBS (l := ?_) (h := ?_) (m2 := ?_) (L := ?_) (M := ?_) tab_is rfl rfl rfl rfl ?_ ?_ ?_ ?_ ?_ ?_ ?_) ?_
      rotate_left 5
      · assumption
      · refine gbound_tmp rfl ?_; exact rfl
      · exact rfl
      · omega
      · omega
      · rfl
      · refine Eq.trans (List.take_of_length_le ?_) ?_; rotate_left 1; rfl; (simp; done)
    intro pf4 cf4 f4
    have f4n := BS.len f4
    refine GOps.r rfl rfl rfl rfl (grd_nil rfl rfl) ?_
    refine GOps.r rfl rfl rfl rfl (grd_fieldAddr tab_is rfl rfl rfl rfl rfl) ?_
    focus
      refine GOps.s rfl rfl rfl (gop_store1 (b := ?_) tab_is rfl rfl rfl rfl rfl rfl ?_ ?_ ?_ ?_) ?_
      rotate_left 1
      · assumption
      · rfl
      · exact Nat.le_of_ble_eq_true rfl
      · exact .inl (by simp)
    refine GOps.nil ?_
    refine GWP.seq ?_
    refine GWP.region ?_
    refine GOps.r rfl rfl rfl rfl (grd_move rfl rfl) ?_
    refine GOps.r rfl rfl rfl rfl (grd_assign rfl rfl) ?_
    refine GOps.nil ?_
    refine GWP.ret ?_
    refine ⟨_, .one rfl, ?_⟩
    refine ⟨?_, ?_⟩
    rotate_left 1
    refine ⟨?_, ?_⟩
    rotate_left 1
    refine ⟨?_, ?_⟩
    · exact rg_bsk h _ _
    refine HExt.put ?_ ?_
    · exact HExt.refl _ _
    · exact .inl (by simp)
    simp only [beq_true, beq_false, Bool.not_true, Bool.not_false, Bool.not_eq_true', Bool.not_eq_false', decide_eq_true_eq, decide_eq_false_iff_not] at f2
    refine GOps.no rfl ?_ rfl rfl ?_
    · exact beq_eq_false_iff_ne.2 (by rw [decide_eq_false (by assumption)]; decide)
    refine GOps.no rfl ?_ rfl rfl ?_
    · exact beq_eq_false_iff_ne.2 (by rw [decide_eq_false (by assumption)]; decide)
    refine GOps.no rfl ?_ rfl rfl ?_
    · exact beq_eq_false_iff_ne.2 (by rw [decide_eq_false (by assumption)]; decide)
    refine GOps.r rfl rfl rfl rfl (grd_pick_f rfl rfl ?_ rfl) ?_
    · exact decide_eq_false (by assumption)
    refine GOps.nil ?_
    refine GWP.cond_f rfl ?_ ?_
    · with_reducible rfl
    refine GWP.skip ?_
    refine GWP.seq ?_
    refine GWP.seq ?_
    refine GWP.region ?_
    refine GOps.r rfl rfl rfl rfl (grd_move rfl rfl) ?_
    refine GOps.r rfl rfl rfl rfl (grd_neq rfl rfl rfl) ?_
    refine GOps.nil ?_
    refine GWP.cond_t rfl ?_ ?_
    · exact decide_eq_true (by assumption)
    refine GWP.seq ?_
    refine GWP.region ?_
    refine GOps.r rfl rfl rfl rfl (grd_move rfl rfl) ?_
    refine GOps.r rfl rfl rfl rfl (grd_move rfl rfl) ?_
    refine GOps.r rfl rfl rfl rfl (grd_nil rfl rfl) ?_
    refine GOps.r rfl rfl rfl rfl (grd_fieldAddr tab_is rfl rfl rfl rfl rfl) ?_
    focus
      refine GOps.s rfl rfl rfl (gop_store1 (b := ?_) tab_is rfl rfl rfl rfl rfl rfl ?_ ?_ ?_ ?_) ?_
      rotate_left 1
      · assumption
      · rfl
      · exact Nat.le_of_ble_eq_true rfl
      · exact .inl (by simp)
    refine GOps.nil ?_
    refine GWP.seq ?_
    refine GWP.region ?_
    refine GOps.r rfl rfl rfl rfl (grd_assign rfl rfl) ?_
    refine GOps.nil ?_
    refine GWP.ret ?_
    refine ⟨_, .one rfl, ?_⟩
    refine ⟨?_, ?_⟩
    rotate_left 1
    refine ⟨?_, ?_⟩
    rotate_left 1
    refine ⟨?_, ?_⟩
    · exact rg_bsk h _ _
    refine HExt.put ?_ ?_
    · exact HExt.refl _ _
    · exact .inl (by simp)
  · rw [num1 f1]; rfl
  · exact ⟨_, _, by rw [num1 f1]; exact h⟩
  · rw [num3 h0 f1 f2 f3]; rfl
  · exact ⟨_, _, by rw [num3 h0 f1 f2 f3]; exact rg_put (s' := ⟨s.l, 5⟩) h hb rfl hl rfl⟩
  · rw [num4 f1 f2 f3]
  · exact ⟨_, _, by rw [num4 f1 f2 f3]; exact rg_put (s' := ⟨s.l.drop (next s.l).2.1, 0⟩) h f4 (by simp) (by simp only [List.length_drop]; omega) (by simp only; omega)⟩
  · rw [num2 f1 f2]; rfl
  · exact ⟨_, _, by rw [num2 f1 f2]; exact rg_put (s' := ⟨s.l, (next s.l).2.2⟩) h hb rfl hl rfl⟩
set_option maxHeartbeats 4000000 in
set_option maxRecDepth 100000 in
set_option linter.unusedSimpArgs false in
theorem g_clone (H : Hp) (p : Option Addr) (n c : Nat) (L : List UInt8) (hb : BS H (.slice p n c) L) (hn : n ≤ 140737488355328) : GCalls Try.prog 125 [.slice p n c] [] H fun v H' => (∃ p' n' c', v = .slice p' n' c' ∧ BS H' (.slice p' n' c') L) ∧ HExt [] H H' := by
  have hl := hb.len
  rcases Nat.eq_zero_or_pos n with h0 | h0
  · subst h0
    obtain rfl : L = [] := List.eq_nil_of_length_eq_zero hl
    refine GCalls.body tab_is Try.func125 rfl Try.results125 Try.ntmps125 (by simp) ?_ ?_
    · first | (intro _ h; cases h; done) | (simp; done) | (simp; omega) | (intro i hi; simp at hi; rcases hi with rfl | rfl <;> omega) | (intro i hi; simp at hi; rcases hi with rfl | rfl | rfl <;> omega)
    focus
      refine GWP.seq ?_
      refine GWP.region ?_
      refine GOps.r rfl rfl rfl rfl (grd_assign rfl rfl) ?_
      refine GOps.nil ?_
      refine GWP.seq ?_
      refine GWP.seq ?_
      refine GWP.region ?_
      refine GOps.r rfl rfl rfl rfl (grd_move rfl rfl) ?_
      refine GOps.r rfl rfl rfl rfl (grd_sleql tab_is rfl rfl rfl rfl rfl) ?_
      refine GOps.nil ?_
      refine GWP.cond rfl (fun i1 => ?_) (fun i1 => ?_)
      simp at i1
      refine GWP.seq ?_
      refine GWP.region ?_
      refine GOps.r rfl rfl rfl rfl (grd_assign rfl rfl) ?_
      refine GOps.nil ?_
      refine GWP.ret ?_
      refine ⟨_, .one rfl, ?_⟩
      refine ⟨?_, ?_⟩
      · exact ⟨_, _, _, rfl, BS.none⟩
      · exact HExt.refl _ _
      simp at i1
      refine GWP.skip ?_
      refine GWP.seq ?_
      refine GWP.region ?_
      focus
        refine GOps.w1 rfl rfl rfl rfl (gop_lit (id := ?_) (cs := ?_) ?_ tab_is rfl rfl rfl ?_ ?_ rfl ?_ ?_) ?_
        rotate_left 2
        · rfl
        · decide
        · decide
        · simp [gfill, gsets, Value.cells]; rfl
        · rfl
      refine GOps.r rfl rfl rfl rfl (grd_move rfl rfl) ?_
      focus
        refine GOps.w1 rfl rfl rfl rfl (gop_zeroB (L := ?_) (M := ?_) tab_is rfl rfl rfl rfl ?_ ?_ (gsrc_bs rfl rfl rfl ?_) ?_ ?_ ?_) ?_
        rotate_left 2
        refine bs_emptyE (b := ?_) ?_ ?_ ?_ ?_ ?_
        rotate_left 1
        · exact Hp.at_push_eq
        · rfl
        · decide
        · rfl
        · rfl
        · omega
        focus
          refine BS.ext (by assumption) ?_
          refine HExt.push ?_
          · exact HExt.refl _ _
        · exact BS.len (by assumption)
        · decide
        · decide
      refine GOps.r rfl rfl rfl rfl (grd_assign rfl rfl) ?_
      refine GOps.nil ?_
      refine GWP.ret ?_
      refine ⟨_, .one rfl, ?_⟩
      refine ⟨?_, ?_⟩
      rotate_left 1
      refine HExt.push ?_
      · exact HExt.refl _ _
    exact ⟨_, _, _, rfl, bs_empty (b := ⟨_, 1, _, _⟩) Hp.at_push_eq rfl (Nat.zero_le _) rfl⟩
  ·
    refine GCalls.body tab_is Try.func125 rfl Try.results125 Try.ntmps125 (by simp) ?_ ?_
    · first | (intro _ h; cases h; done) | (simp; done) | (simp; omega) | (intro i hi; simp at hi; rcases hi with rfl | rfl <;> omega) | (intro i hi; simp at hi; rcases hi with rfl | rfl | rfl <;> omega)
    focus
      refine GWP.seq ?_
      refine GWP.region ?_
      refine GOps.r rfl rfl rfl rfl (grd_assign rfl rfl) ?_
      refine GOps.nil ?_
      refine GWP.seq ?_
      refine GWP.seq ?_
      refine GWP.region ?_
      refine GOps.r rfl rfl rfl rfl (grd_move rfl rfl) ?_
      refine GOps.r rfl rfl rfl rfl (grd_sleql tab_is rfl rfl rfl rfl rfl) ?_
      refine GOps.nil ?_
      refine GWP.cond rfl (fun j1 => ?_) (fun j1 => ?_)
      simp at j1
      refine GWP.seq ?_
      refine GWP.region ?_
      refine GOps.r rfl rfl rfl rfl (grd_assign rfl rfl) ?_
      refine GOps.nil ?_
      refine GWP.ret ?_
      refine ⟨_, .one rfl, ?_⟩
      refine ⟨?_, ?_⟩
      rotate_left 1
      · exact HExt.refl _ _
      simp at j1
      refine GWP.skip ?_
      refine GWP.seq ?_
      refine GWP.region ?_
      focus
        refine GOps.w1 rfl rfl rfl rfl (gop_lit (id := ?_) (cs := ?_) ?_ tab_is rfl rfl rfl ?_ ?_ rfl ?_ ?_) ?_
        rotate_left 2
        · rfl
        · decide
        · decide
        · simp [gfill, gsets, Value.cells]; rfl
        · rfl
      refine GOps.r rfl rfl rfl rfl (grd_move rfl rfl) ?_
      focus
        refine GOps.w1 rfl rfl rfl rfl (gop_fullB (id := ?_) (L := ?_) (M := ?_) (K := ?_) ?_ tab_is rfl rfl rfl rfl ?_ ?_ ?_ (gsrc_bs rfl rfl rfl ?_) ?_ ?_ ?_ ?_) ?_
        rotate_left 4
        · simp; rfl
        refine bs_emptyE (b := ?_) ?_ ?_ ?_ ?_ ?_
        rotate_left 1
        · exact Hp.at_push_eq
        · rfl
        · decide
        · rfl
        · rfl
        · decide
        · omega
        focus
          refine BS.ext (by assumption) ?_
          refine HExt.push ?_
          · exact HExt.refl _ _
        · exact BS.len (by assumption)
        · simp only [List.nil_append]; rfl
        · omega
        · omega
      refine GOps.r rfl rfl rfl rfl (grd_assign rfl rfl) ?_
      refine GOps.nil ?_
      refine GWP.ret ?_
      refine ⟨_, .one rfl, ?_⟩
      refine ⟨?_, ?_⟩
      rotate_left 1
      refine HExt.push ?_
      refine HExt.push ?_
      · exact HExt.refl _ _
    · subst j1
      cases hb
      omega
    · exact ⟨_, _, _, rfl, bs_push (by simp) (by omega)⟩
set_option maxHeartbeats 4000000 in
set_option maxRecDepth 100000 in
set_option linter.unusedSimpArgs false in
theorem g_vopen (H : Hp) (p : Option Addr) (n c : Nat) (L : List UInt8) (hb : BS H (.slice p n c) L) (hn : n ≤ 140737488355328) : GCalls Try.prog 63 [.slice p n c] [] H fun v H' => (∃ g p' c', v = .pointer (some ⟨g, 0, none⟩) ∧ H.length ≤ g ∧ RG 199 H' g p' c' ⟨L, 0⟩) ∧ HExt [] H H' := by
  have hl := hb.len
  refine GCalls.body tab_is Try.func63 rfl Try.results63 Try.ntmps63 (by simp) ?_ ?_
  · first | (intro _ h; cases h; done) | (simp; done) | (simp; omega) | (intro i hi; simp at hi; rcases hi with rfl | rfl <;> omega) | (intro i hi; simp at hi; rcases hi with rfl | rfl | rfl <;> omega)
  focus
    refine GWP.seq ?_
    refine GWP.region ?_
    refine GOps.r rfl rfl rfl rfl (grd_assign rfl rfl) ?_
    refine GOps.nil ?_
    refine GWP.seq ?_
    refine GWP.region ?_
    refine GOps.r rfl rfl rfl rfl (grd_move rfl rfl) ?_
    focus
      refine GOps.w rfl rfl rfl rfl (gop_call rfl Try.call125 rfl ?_ (g_clone _ _ _ _ ?_ ?_ ?_)) ?_
      · intro _ h; cases h; done
      rotate_left 1
      · assumption
      · omega
    rintro _ Hxk5 ⟨⟨pk1, nk2, ck3, rfl, bk4⟩, xk5⟩
    have xk5l := HExt.len xk5; try simp at xk5l
    focus
      refine GOps.r rfl rfl rfl rfl (grd_build (cs := ?_) tab_is rfl rfl rfl ?_ rfl ?_) ?_
      rotate_left 1
      · decide
      · simp [gfill, gsets, Value.cells]; rfl
    focus
      refine GOps.w1 rfl rfl rfl rfl (gop_box' (id := ?_) ?_ rfl rfl rfl) ?_
      rotate_left 1
      · rfl
    refine GOps.r rfl rfl rfl rfl (grd_assign rfl rfl) ?_
    refine GOps.nil ?_
    refine GWP.ret ?_
    refine ⟨_, .one rfl, ?_⟩
    refine ⟨?_, ?_⟩
    rotate_left 1
    refine HExt.push ?_
    · assumption
  have e := bk4.len
  subst e
  exact ⟨_, pk1, ck3, rfl, xk5l, ⟨Hp.at_push_eq, bk4.ext (HExt.refl _ _).push, by simp only; omega⟩⟩
end Go.Proofs.Ytcbngjpihcemiaa
