/- Numbers out of bytes: the readers, on the ghost side. -/
import Derived.Test.YtjlimdiimdihfaaLf
import Derived.Test.YtjlimdiimdihfaaGtab
import Derived.Test.YtjlimdiimdihfaaVb
namespace Go.Proofs.Ytjlimdiimdihfaa
open Go.RowKit

/-- What was told of bytes is so behind. -/
def BSk (H H' : Hp) : Prop := ∀ v L, BS H v L → BS H' v L
theorem BSk.refl (H : Hp) : BSk H H := fun _ _ h => h
theorem BSk.of {H H' : Hp} (h : HExt [] H H') : BSk H H' := fun _ _ k => k.ext h
theorem BSk.trans {H H1 H2 : Hp} (h : BSk H H1) (k : BSk H1 H2) : BSk H H2 := fun _ _ q => k _ _ (h _ _ q)
/-- A reader's struct. -/
def rdBlk (T : TypeId) (v : Value) (e : Int) : Blk := ⟨T, 1, [v, .int .i64 e], true⟩
theorem bs_put {H : Hp} {g : Nat} {T T' : TypeId} {v v' x : Value} {e e' : Int} {L : List UInt8} (hg : H.at g = some (rdBlk T v e)) (hv : ∀ b : UInt8, v ≠ .int .u8 (b.toNat : Int)) (h : BS H x L) : BS (H.put g (rdBlk T' v' e')) x L := by
  cases h with
  | none => exact .none
  | some hb hs hl ho =>
    rename_i j off n c t rw cs
    by_cases e1 : g = j
    · subst e1
      rw [hg] at hb
      injection hb with hb
      unfold rdBlk at hb
      injection hb with b1 b2 b3 b4
      subst b3
      cases L with
      | nil =>
        obtain rfl : n = 0 := hl.symm
        exact .some (Hp.at_put_eq (Hp.at_lt hg)) (by simp [vb]) rfl (by simpa using ho)
      | cons b L =>
        exfalso
        simp only [vb, List.map_cons] at hs
        have h0 : ([v, Value.int .i64 e].drop off)[0]? = some (.int .u8 (b.toNat : Int)) := by
          have : (([v, Value.int .i64 e].drop off).take n)[0]? = some (.int .u8 (b.toNat : Int)) := by rw [hs]; rfl
          rw [List.getElem?_take] at this
          split at this
          · exact this
          · cases this
        match off, h0 with
        | 0, h0 => exact hv b (by simpa using h0)
        | 1, h0 => simp at h0
        | o + 2, h0 => simp at h0
    · exact .some ((Hp.at_put_ne e1).trans hb) hs hl ho
/-- A reader in the heap. -/
structure RG (T : TypeId) (H : Hp) (g : Nat) (p : Option Addr) (c : Nat) (s : RdS) : Prop where
  hg : H.at g = some (rdBlk T (.slice p s.l.length c) s.e)
  hb : BS H (.slice p s.l.length c) s.l
  hl : s.l.length ≤ 140737488355328
theorem rg_mk {T : TypeId} {H : Hp} {g : Nat} {p : Option Addr} {c : Nat} {s : RdS} {b : Blk} (hg : H.at g = some b) (e : b = rdBlk T (.slice p s.l.length c) s.e) (hb : BS H (.slice p s.l.length c) s.l) (hl : s.l.length ≤ 140737488355328) : RG T H g p c s := ⟨hg.trans (congrArg some e), hb, hl⟩
/-- No byte is in it. -/
def nou8 : List Value → Bool
  | [] => true
  | .int .u8 _ :: _ => false
  | _ :: l => nou8 l
theorem nou8_no : ∀ {l : List Value}, nou8 l = true → ∀ v ∈ l, ∀ u : UInt8, v ≠ .int .u8 (u.toNat : Int)
  | [], _, v, hv, _ => by cases hv
  | a :: l, h, v, hv, u => by
    rcases List.mem_cons.1 hv with rfl | hv
    · rintro rfl
      cases h
    · refine nou8_no ?_ v hv u
      unfold nou8 at h
      split at h <;> simp_all
theorem bsk_put {H : Hp} {j : Nat} {b b' : Blk} (hb : H.at j = some b) (hno : nou8 b.cs = true) (hl : b'.cs.length = b.cs.length) (hz : b'.z = b.z) : BSk H (H.put j b') := fun v L h => by
  cases h with
  | none => exact .none
  | some hb2 hs hln hof =>
    rename_i i off n c t rw cs
    by_cases e1 : j = i
    · subst e1
      rw [hb] at hb2
      injection hb2 with hb2
      subst hb2
      cases L with
      | nil =>
        obtain rfl : n = 0 := hln.symm
        obtain ⟨t', z', cs', rw'⟩ := b'
        simp only at hz hl
        subst hz
        exact .some (Hp.at_put_eq (Hp.at_lt hb)) (by simp [vb]) rfl (by simpa [hl] using hof)
      | cons u L =>
        exfalso
        have h0 : ((cs.drop off).take n)[0]? = some (.int .u8 (u.toNat : Int)) := by rw [hs]; rfl
        exact nou8_no hno _ (List.mem_of_mem_drop (List.mem_of_mem_take (List.mem_of_getElem? h0))) u rfl
    · exact .some ((Hp.at_put_ne e1).trans hb2) hs hln hof
theorem rg_ne {H : Hp} {T : TypeId} {g j : Nat} {p : Option Addr} {c : Nat} {s : RdS} {b b' : Blk} (h : RG T H g p c s) (hb : H.at j = some b) (hne : j ≠ g) (hno : nou8 b.cs = true) (hl : b'.cs.length = b.cs.length) (hz : b'.z = b.z) : RG T (H.put j b') g p c s := ⟨(Hp.at_put_ne hne).trans h.hg, bsk_put hb hno hl hz _ _ h.hb, h.hl⟩
/-- A cell that is no byte. -/
def nou8o : Option Value → Bool
  | some (.int .u8 _) => false
  | _ => true
theorem bsk_set {H : Hp} {j q : Nat} {b : Blk} {x : Value} (hb : H.at j = some b) (hq : nou8o b.cs[q]? = true) : BSk H (H.put j ⟨b.t, b.z, b.cs.set q x, b.rw⟩) := fun v L h => by
  cases h with
  | none => exact .none
  | some hb2 hs hln hof =>
    rename_i i off n c t rw cs
    by_cases e1 : j = i
    · subst e1
      rw [hb] at hb2
      injection hb2 with hb2
      subst hb2
      refine .some (Hp.at_put_eq (Hp.at_lt hb)) ?_ hln (by simpa using hof)
      rw [← hs]
      apply List.ext_getElem?
      intro k
      rw [List.getElem?_take, List.getElem?_take, List.getElem?_drop, List.getElem?_drop]
      split
      · rename_i hk
        by_cases e2 : q = off + k
        · exfalso
          have h0 : (vb L)[k]? = some (.int .u8 ((L.getD k 0).toNat : Int)) := by simp [vb, List.getElem?_eq_getElem (show k < L.length by omega)]
          rw [← hs, List.getElem?_take, if_pos hk, List.getElem?_drop, ← e2] at h0
          simp only at hq
          rw [h0] at hq
          cases hq
        · rw [List.getElem?_set_ne e2]
      · rfl
    · exact .some ((Hp.at_put_ne e1).trans hb2) hs hln hof
theorem rg_set {H : Hp} {T : TypeId} {g j q : Nat} {p : Option Addr} {c : Nat} {s : RdS} {b : Blk} {x : Value} (h : RG T H g p c s) (hb : H.at j = some b) (hne : j ≠ g) (hq : nou8o b.cs[q]? = true) : RG T (H.put j ⟨b.t, b.z, b.cs.set q x, b.rw⟩) g p c s := ⟨(Hp.at_put_ne hne).trans h.hg, bsk_set hb hq _ _ h.hb, h.hl⟩
set_option maxHeartbeats 4000000 in
set_option maxRecDepth 100000 in
set_option linter.unusedSimpArgs false in
theorem g_next (H : Hp) (p : Option Addr) (n c : Nat) (L : List UInt8) (hb : BS H (.slice p n c) L) (hn : n ≤ 9223372036854775000) : GCalls Try.prog 50 [.slice p n c] [] H fun v H' => v = .tuple #[.int .u64 ((next L).1 : Int), .int .i64 ((next L).2.1 : Int), .int .i64 ((next L).2.2 : Int)] ∧ H' = H := by
  refine GCalls.plain1 hb (fun _ => .tuple (.cons (.int _ _) (.cons (.int _ _) (.cons (.int _ _) .nil)))) fun A c' w h1 h2 h3 h4 h5 => ?_
  refine (next_any A n c' _ L w h1 hn h5).mono fun e w' ⟨e1, e2⟩ => ⟨e1, ?_⟩
  subst e2
  exact Below.refl _ _
set_option maxHeartbeats 4000000 in
set_option maxRecDepth 100000 in
set_option linter.unusedSimpArgs false in
theorem g_failed (H : Hp) (g : Nat) (p : Option Addr) (c : Nat) (s : RdS) (h : RG 81 H g p c s) : GCalls Try.prog 33 [.pointer (some ⟨g, 0, none⟩)] [] H fun v H' => v = .int .i64 (s.e : Int) ∧ H' = H := by
  have hg := h.hg
  unfold rdBlk at hg
  refine GCalls.body tab_is Try.func33 rfl Try.results33 Try.ntmps33 (by simp) ?_ ?_
  · first | (intro _ h; cases h; done) | (simp; done) | (simp; omega) | (intro i hi; simp at hi; rcases hi with rfl | rfl <;> omega) | (intro i hi; simp at hi; rcases hi with rfl | rfl | rfl <;> omega)
  focus
    refine GWP.seq ?_
    refine GWP.region ?_
    refine GOps.r rfl rfl rfl rfl (grd_assign rfl rfl) ?_
    refine GOps.nil ?_
    refine GWP.seq ?_
    refine GWP.seq ?_
    refine GWP.region ?_
    refine GOps.r rfl rfl rfl rfl (grd_move rfl rfl) ?_
    refine GOps.r rfl rfl rfl rfl (grd_peql tab_is rfl rfl rfl rfl rfl) ?_
    refine GOps.nil ?_
    refine GWP.cond_f rfl ?_ ?_
    · simp; done
    refine GWP.skip ?_
    refine GWP.seq ?_
    refine GWP.region ?_
    refine GOps.r rfl rfl rfl rfl (grd_move rfl rfl) ?_
    refine GOps.r rfl rfl rfl rfl (grd_nil rfl rfl) ?_
    refine GOps.r rfl rfl rfl rfl (grd_fieldAddr tab_is rfl rfl rfl rfl rfl) ?_
    focus
      refine GOps.r rfl rfl rfl rfl (grd_load1 (b := ?_) (v := ?_) tab_is rfl rfl rfl rfl ?_ ?_) ?_
      rotate_left 2
      · assumption
      · rfl
    refine GOps.r rfl rfl rfl rfl (grd_assign rfl rfl) ?_
    refine GOps.nil ?_
    refine GWP.ret ?_
    refine ⟨_, .one rfl, ?_⟩
    refine ⟨?_, ?_⟩
    · rfl
    · rfl
set_option maxHeartbeats 4000000 in
set_option maxRecDepth 100000 in
set_option linter.unusedSimpArgs false in
theorem g_fail (H : Hp) (g : Nat) (p : Option Addr) (c : Nat) (s : RdS) (k : Int) (h : RG 81 H g p c s) (hk : s.e = 0) : GCalls Try.prog 51 [.pointer (some ⟨g, 0, none⟩), .int .i64 k] [g] H fun v H' => v = .tuple #[] ∧ H' = H.put g (rdBlk 81 (.slice p s.l.length c) k) := by
  have hg := h.hg
  unfold rdBlk at hg
  have hlt := Hp.at_lt hg
  refine GCalls.body tab_is Try.func51 rfl Try.results51 Try.ntmps51 (by simp) ?_ ?_
  · first | (intro _ h; cases h; done) | (simp; done) | (simp; omega) | (intro i hi; simp at hi; rcases hi with rfl | rfl <;> omega) | (intro i hi; simp at hi; rcases hi with rfl | rfl | rfl <;> omega)
  focus
    refine GWP.seq ?_
    refine GWP.region ?_
    refine GOps.r rfl rfl rfl rfl (grd_move rfl rfl) ?_
    refine GOps.r rfl rfl rfl rfl (grd_nil rfl rfl) ?_
    refine GOps.r rfl rfl rfl rfl (grd_fieldAddr tab_is rfl rfl rfl rfl rfl) ?_
    focus
      refine GOps.r rfl rfl rfl rfl (grd_load1 (b := ?_) (v := ?_) tab_is rfl rfl rfl rfl ?_ ?_) ?_
      rotate_left 2
      · assumption
      · rfl
    refine GOps.r rfl rfl rfl rfl (grd_eql rfl rfl rfl) ?_
    refine GOps.nil ?_
    refine GWP.cond_t rfl ?_ ?_
    · exact decide_eq_true (by omega)
    refine GWP.region ?_
    refine GOps.r rfl rfl rfl rfl (grd_move rfl rfl) ?_
    refine GOps.r rfl rfl rfl rfl (grd_move rfl rfl) ?_
    refine GOps.r rfl rfl rfl rfl (grd_nil rfl rfl) ?_
    refine GOps.r rfl rfl rfl rfl (grd_fieldAddr tab_is rfl rfl rfl rfl rfl) ?_
    focus
      refine GOps.s rfl rfl rfl (gop_store1 (b := ?_) tab_is rfl rfl rfl rfl rfl rfl ?_ ?_ ?_ ?_) ?_
      rotate_left 1
      · assumption
      · rfl
      · exact Nat.le_of_ble_eq_true rfl
      · exact .inl (by simp)
    refine GOps.nil ?_
    refine ⟨_, .none, ?_⟩
    refine ⟨?_, ?_⟩
    · rfl
    · rfl
theorem rg_put {H : Hp} {T : TypeId} {g : Nat} {p : Option Addr} {c : Nat} {s : RdS} (h : RG T H g p c s) {p' : Option Addr} {n' c' : Nat} {s' : RdS} (hb : BS H (.slice p' n' c') s'.l) (hn : n' = s'.l.length) (hl : s'.l.length ≤ 140737488355328) {e : Int} (he : e = (s'.e : Int)) : RG T (H.put g (rdBlk T (.slice p' n' c') e)) g p' c' s' := by
  subst he hn
  exact ⟨Hp.at_put_eq (Hp.at_lt h.hg), bs_put h.hg (fun b e => by cases e) hb, hl⟩
theorem rg_bsk {H : Hp} {T : TypeId} {g : Nat} {p : Option Addr} {c : Nat} {s : RdS} (h : RG T H g p c s) (v : Value) (e : Int) : BSk H (H.put g (rdBlk T v e)) := fun _ _ q => bs_put h.hg (fun b e => by cases e) q
set_option maxHeartbeats 4000000 in
set_option maxRecDepth 100000 in
set_option linter.unusedSimpArgs false in
theorem g_fail2 (H : Hp) (g : Nat) (p : Option Addr) (c : Nat) (s : RdS) (k : Int) (h : RG 81 H g p c s) (hk : s.e = 0) (e : Nat) (he : k = (e : Int)) : GCalls Try.prog 51 [.pointer (some ⟨g, 0, none⟩), .int .i64 k] [g] H fun v H' => v = .tuple #[] ∧ RG 81 H' g p c ⟨s.l, e⟩ ∧ BSk H H' ∧ HExt [g] H H' :=
  (g_fail H g p c s k h hk).mono fun v H' ⟨e1, e2⟩ => by
    subst e1 e2
    exact ⟨rfl, rg_put (s' := ⟨s.l, e⟩) h h.hb rfl h.hl he, rg_bsk h _ _, (HExt.refl _ _).put (.inl (by simp))⟩
theorem next_size (l : List UInt8) (h : (next l).2.2 = 0) : (next l).2.1 ≤ l.length := by
  generalize hn : next l = R at h ⊢
  obtain ⟨r1, r2, r3⟩ := R
  simp only at h
  subst h
  exact (next_ok hn).1
section
variable {s : RdS} {most : Int}
theorem num1 (h : (s.e : Int) ≠ 0) : s.number most.toNat = (0, s) := if_pos (by omega)
theorem num2 (h : ¬ (s.e : Int) ≠ 0) (h2 : ¬ ((next s.l).2.2 : Int) = 0) : s.number most.toNat = (0, ⟨s.l, (next s.l).2.2⟩) := by rw [RdS.number, if_neg (by omega), if_pos (by omega)]
theorem num3 (h0 : 0 ≤ most) (h : ¬ (s.e : Int) ≠ 0) (h2 : ((next s.l).2.2 : Int) = 0) (h3 : most < (next s.l).1) : s.number most.toNat = (0, ⟨s.l, 5⟩) := by
  rw [RdS.number, if_neg (by omega), if_neg (by omega), if_pos (by omega)]
theorem num4 (h : ¬ (s.e : Int) ≠ 0) (h2 : ((next s.l).2.2 : Int) = 0) (h3 : ¬ most < (next s.l).1) : s.number most.toNat = ((next s.l).1, ⟨s.l.drop (next s.l).2.1, 0⟩) := by rw [RdS.number, if_neg (by omega), if_neg (by omega), if_neg (by omega)]
end
set_option maxHeartbeats 4000000 in
set_option maxRecDepth 100000 in
set_option linter.unusedSimpArgs false in
theorem g_number (H : Hp) (g : Nat) (p : Option Addr) (c : Nat) (s : RdS) (most : Int) (h0 : 0 ≤ most) (h : RG 81 H g p c s) : GCalls Try.prog 24 [.pointer (some ⟨g, 0, none⟩), .int .u64 most] [g] H fun v H' => v = .int .u64 ((s.number most.toNat).1 : Int) ∧ (∃ p' c', RG 81 H' g p' c' (s.number most.toNat).2) ∧ BSk H H' ∧ HExt [g] H H' := by
  have hg := h.hg
  have hb := h.hb
  have hl := h.hl
  unfold rdBlk at hg
  have hlt := Hp.at_lt hg
  have hsz := next_size s.l
  refine GCalls.body tab_is Try.func24 rfl Try.results24 Try.ntmps24 (by simp) ?_ ?_
  · first | (intro _ h; cases h; done) | (simp; done) | (simp; omega) | (intro i hi; simp at hi; rcases hi with rfl | rfl <;> omega) | (intro i hi; simp at hi; rcases hi with rfl | rfl | rfl <;> omega)
  focus
    refine GWP.seq ?_
    refine GWP.region ?_
    refine GOps.r rfl rfl rfl rfl (grd_assign rfl rfl) ?_
    refine GOps.nil ?_
    refine GWP.seq ?_
    refine GWP.seq ?_
    refine GWP.region ?_
    refine GOps.r rfl rfl rfl rfl (grd_move rfl rfl) ?_
    refine GOps.w1 rfl rfl rfl rfl (gop_call rfl Try.call33 rfl ?_ (g_failed H g p c s h)) ?_
    · intro _ h; cases h; done
    refine GOps.r rfl rfl rfl rfl (grd_neq rfl rfl rfl) ?_
    refine GOps.nil ?_
    refine GWP.cond rfl (fun c1 => ?_) (fun c1 => ?_)
    simp only [beq_true, beq_false, Bool.not_true, Bool.not_false, Bool.not_eq_true', Bool.not_eq_false', decide_eq_true_eq, decide_eq_false_iff_not] at c1
    refine GWP.seq ?_
    refine GWP.region ?_
    refine GOps.r rfl rfl rfl rfl (grd_assign rfl rfl) ?_
    refine GOps.nil ?_
    refine GWP.ret ?_
    refine ⟨_, .one rfl, ?_⟩
    refine ⟨?_, ?_⟩
    rotate_left 1
    refine ⟨?_, ?_⟩
    rotate_left 1
    refine ⟨?_, ?_⟩
    · exact BSk.refl _
    · exact HExt.refl _ _
    simp only [beq_true, beq_false, Bool.not_true, Bool.not_false, Bool.not_eq_true', Bool.not_eq_false', decide_eq_true_eq, decide_eq_false_iff_not] at c1
    refine GWP.skip ?_
    refine GWP.seq ?_
    refine GWP.region ?_
    refine GOps.r rfl rfl rfl rfl (grd_move rfl rfl) ?_
    refine GOps.r rfl rfl rfl rfl (grd_nil rfl rfl) ?_
    refine GOps.r rfl rfl rfl rfl (grd_fieldAddr tab_is rfl rfl rfl rfl rfl) ?_
    focus
      refine GOps.r rfl rfl rfl rfl (grd_load1 (b := ?_) (v := ?_) tab_is rfl rfl rfl rfl ?_ ?_) ?_
      rotate_left 2
      · assumption
      · rfl
    focus
      refine GOps.w1 rfl rfl rfl rfl (gop_call rfl Try.call50 rfl ?_ (g_next _ _ _ _ ?_ ?_ ?_)) ?_
      · intro _ h; cases h; done
      rotate_left 1
      · assumption
      · omega
    refine GOps.r rfl rfl rfl rfl (grd_move rfl rfl) ?_
    focus
      refine GOps.r rfl rfl rfl rfl (grd_extract (v := ?_) rfl rfl ?_) ?_
      rotate_left 1
      · simp only [List.getElem?_toArray, List.getElem?_cons_zero, List.getElem?_cons_succ]; rfl
    focus
      refine GOps.r rfl rfl rfl rfl (grd_extract (v := ?_) rfl rfl ?_) ?_
      rotate_left 1
      · simp only [List.getElem?_toArray, List.getElem?_cons_zero, List.getElem?_cons_succ]; rfl
    focus
      refine GOps.r rfl rfl rfl rfl (grd_extract (v := ?_) rfl rfl ?_) ?_
      rotate_left 1
      · simp only [List.getElem?_toArray, List.getElem?_cons_zero, List.getElem?_cons_succ]; rfl
    refine GOps.r rfl rfl rfl rfl (grd_assign rfl rfl) ?_
    refine GOps.r rfl rfl rfl rfl (grd_assign rfl rfl) ?_
    refine GOps.r rfl rfl rfl rfl (grd_assign rfl rfl) ?_
    refine GOps.nil ?_
    refine GWP.seq ?_
    refine GWP.seq ?_
    refine GWP.region ?_
    refine GOps.r rfl rfl rfl rfl (grd_move rfl rfl) ?_
    refine GOps.r rfl rfl rfl rfl (grd_eql rfl rfl rfl) ?_
    refine GOps.r rfl rfl rfl rfl (grd_move rfl rfl) ?_
    refine GOps.split rfl rfl (fun c2 => ?_) (fun c2 => ?_)
    simp only [beq_true, beq_false, Bool.not_true, Bool.not_false, Bool.not_eq_true', Bool.not_eq_false', decide_eq_true_eq, decide_eq_false_iff_not] at c2
    refine GOps.take rfl rfl ?_ ?_
    · exact beq_iff_eq.2 (decide_eq_true (by assumption))
    refine GOps.r rfl rfl rfl rfl (grd_move rfl rfl) ?_
    refine GOps.take rfl rfl ?_ ?_
    · exact beq_iff_eq.2 (decide_eq_true (by assumption))
    refine GOps.r rfl rfl rfl rfl (grd_move rfl rfl) ?_
    refine GOps.take rfl rfl ?_ ?_
    · exact beq_iff_eq.2 (decide_eq_true (by assumption))
    refine GOps.r rfl rfl rfl rfl (grd_gtr rfl rfl rfl) ?_
    refine GOps.r rfl rfl rfl rfl (grd_pick_t rfl rfl ?_ rfl) ?_
    · exact decide_eq_true (by assumption)
    refine GOps.nil ?_
    refine GWP.cond rfl (fun c3 => ?_) (fun c3 => ?_)
    simp only [beq_true, beq_false, Bool.not_true, Bool.not_false, Bool.not_eq_true', Bool.not_eq_false', decide_eq_true_eq, decide_eq_false_iff_not] at c3
    refine GWP.region ?_
    refine GOps.r rfl rfl rfl rfl (grd_assign rfl rfl) ?_
    refine GOps.nil ?_
    refine GWP.seq ?_
    refine GWP.seq ?_
    refine GWP.region ?_
    refine GOps.r rfl rfl rfl rfl (grd_move rfl rfl) ?_
    refine GOps.r rfl rfl rfl rfl (grd_neq rfl rfl rfl) ?_
    refine GOps.nil ?_
    refine GWP.cond_t rfl ?_ ?_
    · exact decide_eq_true (by omega)
    refine GWP.seq ?_
    refine GWP.region ?_
    refine GOps.r rfl rfl rfl rfl (grd_move rfl rfl) ?_
    refine GOps.r rfl rfl rfl rfl (grd_move rfl rfl) ?_
    refine GOps.w1 rfl rfl rfl rfl (gop_call rfl Try.call51 rfl ?_ (g_fail _ _ _ _ _ _ h ?_)) ?_
    · simp [Ctx.may]; done
    · omega
    refine GOps.nil ?_
    refine GWP.seq ?_
    refine GWP.region ?_
    refine GOps.r rfl rfl rfl rfl (grd_assign rfl rfl) ?_
    refine GOps.nil ?_
    refine GWP.ret ?_
    refine ⟨_, .one rfl, ?_⟩
    refine ⟨?_, ?_⟩
    rotate_left 1
    refine ⟨?_, ?_⟩
    rotate_left 1
    refine ⟨?_, ?_⟩
    · exact rg_bsk h _ _
    refine HExt.put ?_ ?_
    · exact HExt.refl _ _
    · exact .inl (by simp)
    simp only [beq_true, beq_false, Bool.not_true, Bool.not_false, Bool.not_eq_true', Bool.not_eq_false', decide_eq_true_eq, decide_eq_false_iff_not] at c3
    refine GWP.skip ?_
    refine GWP.seq ?_
    refine GWP.seq ?_
    refine GWP.region ?_
    refine GOps.r rfl rfl rfl rfl (grd_move rfl rfl) ?_
    refine GOps.r rfl rfl rfl rfl (grd_neq rfl rfl rfl) ?_
    refine GOps.nil ?_
    refine GWP.cond_f rfl ?_ ?_
    · exact decide_eq_false (by omega)
    refine GWP.skip ?_
    refine GWP.seq ?_
    refine GWP.region ?_
    refine GOps.r rfl rfl rfl rfl (grd_move rfl rfl) ?_
    refine GOps.r rfl rfl rfl rfl (grd_move rfl rfl) ?_
    refine GOps.r rfl rfl rfl rfl (grd_nil rfl rfl) ?_
    refine GOps.r rfl rfl rfl rfl (grd_fieldAddr tab_is rfl rfl rfl rfl rfl) ?_
    focus
      refine GOps.r rfl rfl rfl rfl (grd_load1 (b := ?_) (v := ?_) tab_is rfl rfl rfl rfl ?_ ?_) ?_
      rotate_left 2
      · assumption
      · rfl
    refine GOps.r rfl rfl rfl rfl (grd_move rfl rfl) ?_
    focus
      refine gops_bs rfl rfl rfl rfl (grd_slBS (l := ?_) (h := ?_) (m2 := ?_) (L := ?_) (M := ?_) tab_is rfl rfl rfl rfl ?_ ?_ ?_ ?_ ?_ ?_ ?_) ?_
      rotate_left 5
      · assumption
      · refine gbound_tmp rfl ?_; exact rfl
      · exact rfl
      · omega
      · omega
      · rfl
      · refine Eq.trans (List.take_of_length_le ?_) ?_; rotate_left 1; rfl; (simp; done)
    intro pc4 cc4 c4
    have c4n := BS.len c4
    refine GOps.r rfl rfl rfl rfl (grd_nil rfl rfl) ?_
    refine GOps.r rfl rfl rfl rfl (grd_fieldAddr tab_is rfl rfl rfl rfl rfl) ?_
    focus
      refine GOps.s rfl rfl rfl (gop_store1 (b := ?_) tab_is rfl rfl rfl rfl rfl rfl ?_ ?_ ?_ ?_) ?_
      rotate_left 1
      · assumption
      · rfl
      · exact Nat.le_of_ble_eq_true rfl
      · exact .inl (by simp)
    refine GOps.nil ?_
    refine GWP.seq ?_
    refine GWP.region ?_
    refine GOps.r rfl rfl rfl rfl (grd_move rfl rfl) ?_
    refine GOps.r rfl rfl rfl rfl (grd_assign rfl rfl) ?_
    refine GOps.nil ?_
    refine GWP.ret ?_
    refine ⟨_, .one rfl, ?_⟩
    refine ⟨?_, ?_⟩
    rotate_left 1
    refine ⟨?_, ?_⟩
    rotate_left 1
    refine ⟨?_, ?_⟩
    · exact rg_bsk h _ _
    refine HExt.put ?_ ?_
    · exact HExt.refl _ _
    · exact .inl (by simp)
    simp only [beq_true, beq_false, Bool.not_true, Bool.not_false, Bool.not_eq_true', Bool.not_eq_false', decide_eq_true_eq, decide_eq_false_iff_not] at c2
    refine GOps.no rfl ?_ rfl rfl ?_
    · exact beq_eq_false_iff_ne.2 (by rw [decide_eq_false (by assumption)]; decide)
    refine GOps.no rfl ?_ rfl rfl ?_
    · exact beq_eq_false_iff_ne.2 (by rw [decide_eq_false (by assumption)]; decide)
    refine GOps.no rfl ?_ rfl rfl ?_
    · exact beq_eq_false_iff_ne.2 (by rw [decide_eq_false (by assumption)]; decide)
    refine GOps.r rfl rfl rfl rfl (grd_pick_f rfl rfl ?_ rfl) ?_
    · exact decide_eq_false (by assumption)
    refine GOps.nil ?_
    refine GWP.cond_f rfl ?_ ?_
    · with_reducible rfl
    refine GWP.skip ?_
    refine GWP.seq ?_
    refine GWP.seq ?_
    refine GWP.region ?_
    refine GOps.r rfl rfl rfl rfl (grd_move rfl rfl) ?_
    refine GOps.r rfl rfl rfl rfl (grd_neq rfl rfl rfl) ?_
    refine GOps.nil ?_
    refine GWP.cond_t rfl ?_ ?_
    · exact decide_eq_true (by assumption)
    refine GWP.seq ?_
    refine GWP.region ?_
    refine GOps.r rfl rfl rfl rfl (grd_move rfl rfl) ?_
    refine GOps.r rfl rfl rfl rfl (grd_move rfl rfl) ?_
    refine GOps.w1 rfl rfl rfl rfl (gop_call rfl Try.call51 rfl ?_ (g_fail _ _ _ _ _ _ h ?_)) ?_
    · simp [Ctx.may]; done
    · omega
    refine GOps.nil ?_
    refine GWP.seq ?_
    refine GWP.region ?_
    refine GOps.r rfl rfl rfl rfl (grd_assign rfl rfl) ?_
    refine GOps.nil ?_
    refine GWP.ret ?_
    refine ⟨_, .one rfl, ?_⟩
    refine ⟨?_, ?_⟩
    rotate_left 1
    refine ⟨?_, ?_⟩
    rotate_left 1
    refine ⟨?_, ?_⟩
    · exact rg_bsk h _ _
    refine HExt.put ?_ ?_
    · exact HExt.refl _ _
    · exact .inl (by simp)
  · rw [num1 c1]; rfl
  · exact ⟨_, _, by rw [num1 c1]; exact h⟩
  · rw [num3 h0 c1 c2 c3]; rfl
  · exact ⟨_, _, by rw [num3 h0 c1 c2 c3]; exact rg_put (s' := ⟨s.l, 5⟩) h hb rfl hl rfl⟩
  · rw [num4 c1 c2 c3]
  · exact ⟨_, _, by rw [num4 c1 c2 c3]; exact rg_put (s' := ⟨s.l.drop (next s.l).2.1, 0⟩) h c4 (by simp) (by simp only [List.length_drop]; omega) (by simp only; omega)⟩
  · rw [num2 c1 c2]; rfl
  · exact ⟨_, _, by rw [num2 c1 c2]; exact rg_put (s' := ⟨s.l, (next s.l).2.2⟩) h hb rfl hl rfl⟩
theorem fin1 {s : RdS} (h : (s.e : Int) ≠ 0) : s.fin = s.e := if_pos (by omega)
theorem fin2 {s : RdS} (h : ¬ (s.e : Int) ≠ 0) (h2 : 0 < (s.l.length : Int)) : s.fin = 5 := by rw [RdS.fin, if_neg (by omega), if_pos (by omega)]
theorem fin3 {s : RdS} (h : ¬ (s.e : Int) ≠ 0) (h2 : ¬ 0 < (s.l.length : Int)) : s.fin = 0 := by rw [RdS.fin, if_neg (by omega), if_neg (by omega)]
set_option maxHeartbeats 4000000 in
set_option maxRecDepth 100000 in
set_option linter.unusedSimpArgs false in
theorem g_end (H : Hp) (g : Nat) (p : Option Addr) (c : Nat) (s : RdS) (h : RG 81 H g p c s) : GCalls Try.prog 25 [.pointer (some ⟨g, 0, none⟩)] [] H fun v H' => v = .int .i64 (s.fin : Int) ∧ H' = H := by
  have hg := h.hg
  unfold rdBlk at hg
  refine GCalls.body tab_is Try.func25 rfl Try.results25 Try.ntmps25 (by simp) ?_ ?_
  · first | (intro _ h; cases h; done) | (simp; done) | (simp; omega) | (intro i hi; simp at hi; rcases hi with rfl | rfl <;> omega) | (intro i hi; simp at hi; rcases hi with rfl | rfl | rfl <;> omega)
  focus
    refine GWP.seq ?_
    refine GWP.region ?_
    refine GOps.r rfl rfl rfl rfl (grd_assign rfl rfl) ?_
    refine GOps.nil ?_
    refine GWP.seq ?_
    refine GWP.seq ?_
    refine GWP.region ?_
    refine GOps.r rfl rfl rfl rfl (grd_move rfl rfl) ?_
    refine GOps.w1 rfl rfl rfl rfl (gop_call rfl Try.call33 rfl ?_ (g_failed H g p c s h)) ?_
    · intro _ h; cases h; done
    refine GOps.r rfl rfl rfl rfl (grd_assign rfl rfl) ?_
    refine GOps.nil ?_
    refine GWP.seq ?_
    refine GWP.region ?_
    refine GOps.r rfl rfl rfl rfl (grd_move rfl rfl) ?_
    refine GOps.r rfl rfl rfl rfl (grd_neq rfl rfl rfl) ?_
    refine GOps.nil ?_
    refine GWP.cond rfl (fun d1 => ?_) (fun d1 => ?_)
    simp only [beq_true, beq_false, Bool.not_true, Bool.not_false, Bool.not_eq_true', Bool.not_eq_false', decide_eq_true_eq, decide_eq_false_iff_not] at d1
    refine GWP.seq ?_
    refine GWP.region ?_
    refine GOps.r rfl rfl rfl rfl (grd_move rfl rfl) ?_
    refine GOps.r rfl rfl rfl rfl (grd_assign rfl rfl) ?_
    refine GOps.nil ?_
    refine GWP.ret ?_
    refine ⟨_, .one rfl, ?_⟩
    refine ⟨?_, ?_⟩
    rotate_left 1
    · rfl
    simp only [beq_true, beq_false, Bool.not_true, Bool.not_false, Bool.not_eq_true', Bool.not_eq_false', decide_eq_true_eq, decide_eq_false_iff_not] at d1
    refine GWP.skip ?_
    refine GWP.seq ?_
    refine GWP.seq ?_
    refine GWP.region ?_
    refine GOps.r rfl rfl rfl rfl (grd_move rfl rfl) ?_
    refine GOps.r rfl rfl rfl rfl (grd_nil rfl rfl) ?_
    refine GOps.r rfl rfl rfl rfl (grd_fieldAddr tab_is rfl rfl rfl rfl rfl) ?_
    focus
      refine GOps.r rfl rfl rfl rfl (grd_load1 (b := ?_) (v := ?_) tab_is rfl rfl rfl rfl ?_ ?_) ?_
      rotate_left 2
      · assumption
      · rfl
    refine GOps.r rfl rfl rfl rfl (grd_len tab_is rfl rfl rfl rfl rfl) ?_
    refine GOps.r rfl rfl rfl rfl (grd_gtr rfl rfl rfl) ?_
    refine GOps.nil ?_
    refine GWP.cond rfl (fun d2 => ?_) (fun d2 => ?_)
    simp only [beq_true, beq_false, Bool.not_true, Bool.not_false, Bool.not_eq_true', Bool.not_eq_false', decide_eq_true_eq, decide_eq_false_iff_not] at d2
    refine GWP.seq ?_
    refine GWP.region ?_
    refine GOps.r rfl rfl rfl rfl (grd_assign rfl rfl) ?_
    refine GOps.nil ?_
    refine GWP.ret ?_
    refine ⟨_, .one rfl, ?_⟩
    refine ⟨?_, ?_⟩
    rotate_left 1
    · rfl
    simp only [beq_true, beq_false, Bool.not_true, Bool.not_false, Bool.not_eq_true', Bool.not_eq_false', decide_eq_true_eq, decide_eq_false_iff_not] at d2
    refine GWP.skip ?_
    refine GWP.seq ?_
    refine GWP.region ?_
    refine GOps.r rfl rfl rfl rfl (grd_assign rfl rfl) ?_
    refine GOps.nil ?_
    refine GWP.ret ?_
    refine ⟨_, .one rfl, ?_⟩
    refine ⟨?_, ?_⟩
    rotate_left 1
    · rfl
  · rw [fin1 d1]
  · rw [fin2 d1 d2]; rfl
  · rw [fin3 d1 d2]; rfl
theorem number_le' (s : RdS) (m : Nat) : (s.number m).1 ≤ m := by
  unfold RdS.number
  split
  · exact Nat.zero_le _
  · split
    · exact Nat.zero_le _
    · split
      · exact Nat.zero_le _
      · simp only; omega
set_option maxHeartbeats 4000000 in
set_option maxRecDepth 100000 in
set_option linter.unusedSimpArgs false in
theorem g_bytes (H : Hp) (g : Nat) (p : Option Addr) (c : Nat) (s : RdS) (most : Int) (hm : most ≤ 9223372036854775807) (h : RG 81 H g p c s) : GCalls Try.prog 32 [.pointer (some ⟨g, 0, none⟩), .int .i64 most] [g] H fun v H' => (∃ p' n' c', v = .slice p' n' c' ∧ BS H' (.slice p' n' c') (s.bytes most).1) ∧ (∃ p' c', RG 81 H' g p' c' (s.bytes most).2) ∧ BSk H H' ∧ HExt [g] H H' := by
  have hlt := Hp.at_lt h.hg
  have hle := number_le' s (max most 0).toNat
  generalize hN : s.number (max most 0).toNat = R at hle
  have hby : s.bytes most = if R.2.e ≠ 0 then ([], R.2) else if R.2.l.length < R.1 then ([], ⟨R.2.l, 2⟩) else (R.2.l.take R.1, ⟨R.2.l.drop R.1, 0⟩) := by rw [RdS.bytes, hN]
  have hcon := fun (H : Hp) (p : Option Addr) (c : Nat) (h0 : 0 ≤ max most 0) (h : RG 81 H g p c s) => g_number H g p c s (max most 0) h0 h
  rw [hN] at hcon
  rw [hby]
  clear hby hN
  obtain ⟨n, s2⟩ := R
  simp only at hle hcon ⊢
  refine GCalls.body tab_is Try.func32 rfl Try.results32 Try.ntmps32 (by simp) ?_ ?_
  · first | (intro _ h; cases h; done) | (simp; done) | (simp; omega) | (intro i hi; simp at hi; rcases hi with rfl | rfl <;> omega) | (intro i hi; simp at hi; rcases hi with rfl | rfl | rfl <;> omega)
  focus
    refine GWP.seq ?_
    refine GWP.region ?_
    refine GOps.r rfl rfl rfl rfl (grd_assign rfl rfl) ?_
    refine GOps.nil ?_
    refine GWP.seq ?_
    refine GWP.region ?_
    refine GOps.r rfl rfl rfl rfl (grd_move rfl rfl) ?_
    refine GOps.r rfl rfl rfl rfl (grd_move rfl rfl) ?_
    refine GOps.r rfl rfl rfl rfl (grd_max rfl rfl rfl) ?_
    refine GOps.r rfl rfl rfl rfl (grd_conv_in tab_is rfl rfl rfl rfl rfl ?_) ?_
    · refine wrap_u64_in ?_; omega
    focus
      refine GOps.w rfl rfl rfl rfl (gop_call rfl Try.call24 rfl ?_ (hcon _ ?_ ?_ ?_ ?_)) ?_
      · simp [Ctx.may]; done
      rotate_left 2
      · omega
      · assumption
    rintro _ _ ⟨rfl, ⟨pe1, ce2, re3⟩, ke4, xe5⟩
    have xe5l := HExt.len xe5; try simp at xe5l
    have re3g := RG.hg re3; unfold rdBlk at re3g
    have re3b := RG.hb re3
    have re3n := RG.hl re3
    refine GOps.r rfl rfl rfl rfl (grd_conv_in tab_is rfl rfl rfl rfl rfl ?_) ?_
    · refine wrap_i64_in ?_; omega
    refine GOps.r rfl rfl rfl rfl (grd_assign rfl rfl) ?_
    refine GOps.nil ?_
    refine GWP.seq ?_
    refine GWP.seq ?_
    refine GWP.region ?_
    refine GOps.r rfl rfl rfl rfl (grd_move rfl rfl) ?_
    focus
      refine GOps.w1 rfl rfl rfl rfl (gop_call rfl Try.call33 rfl ?_ (g_failed _ _ ?_ ?_ ?_ ?_)) ?_
      · intro _ h; cases h; done
      rotate_left 3
      · assumption
    refine GOps.r rfl rfl rfl rfl (grd_eql rfl rfl rfl) ?_
    refine GOps.r rfl rfl rfl rfl (grd_move rfl rfl) ?_
    refine GOps.split rfl rfl (fun e6 => ?_) (fun e6 => ?_)
    simp only [beq_true, beq_false, Bool.not_true, Bool.not_false, Bool.not_eq_true', Bool.not_eq_false', decide_eq_true_eq, decide_eq_false_iff_not] at e6
    refine GOps.take rfl rfl ?_ ?_
    · exact beq_iff_eq.2 (decide_eq_true (by assumption))
    refine GOps.r rfl rfl rfl rfl (grd_move rfl rfl) ?_
    refine GOps.take rfl rfl ?_ ?_
    · exact beq_iff_eq.2 (decide_eq_true (by assumption))
    refine GOps.r rfl rfl rfl rfl (grd_move rfl rfl) ?_
    refine GOps.take rfl rfl ?_ ?_
    · exact beq_iff_eq.2 (decide_eq_true (by assumption))
    refine GOps.r rfl rfl rfl rfl (grd_nil rfl rfl) ?_
    refine GOps.take rfl rfl ?_ ?_
    · exact beq_iff_eq.2 (decide_eq_true (by assumption))
    refine GOps.r rfl rfl rfl rfl (grd_fieldAddr tab_is rfl rfl rfl rfl rfl) ?_
    refine GOps.take rfl rfl ?_ ?_
    · exact beq_iff_eq.2 (decide_eq_true (by assumption))
    focus
      refine GOps.r rfl rfl rfl rfl (grd_load1 (b := ?_) (v := ?_) tab_is rfl rfl rfl rfl ?_ ?_) ?_
      rotate_left 2
      · assumption
      · rfl
    refine GOps.take rfl rfl ?_ ?_
    · exact beq_iff_eq.2 (decide_eq_true (by assumption))
    refine GOps.r rfl rfl rfl rfl (grd_len tab_is rfl rfl rfl rfl rfl) ?_
    refine GOps.take rfl rfl ?_ ?_
    · exact beq_iff_eq.2 (decide_eq_true (by assumption))
    refine GOps.r rfl rfl rfl rfl (grd_gtr rfl rfl rfl) ?_
    refine GOps.r rfl rfl rfl rfl (grd_pick_t rfl rfl ?_ rfl) ?_
    · exact decide_eq_true (by assumption)
    refine GOps.nil ?_
    refine GWP.cond rfl (fun e7 => ?_) (fun e7 => ?_)
    simp only [beq_true, beq_false, Bool.not_true, Bool.not_false, Bool.not_eq_true', Bool.not_eq_false', decide_eq_true_eq, decide_eq_false_iff_not] at e7
    refine GWP.region ?_
    refine GOps.r rfl rfl rfl rfl (grd_move rfl rfl) ?_
    focus
      refine GOps.w rfl rfl rfl rfl (gop_call rfl Try.call51 rfl ?_ (g_fail2 _ _ ?_ ?_ ?_ _ ?_ ?_ 2 rfl)) ?_
      · simp [Ctx.may]; done
      rotate_left 3
      · assumption
      · omega
    rintro _ _ ⟨rfl, re8, ke9, xe10⟩
    have xe10l := HExt.len xe10; try simp at xe10l
    replace re3b := ke9 _ _ re3b
    have re8g := RG.hg re8; unfold rdBlk at re8g
    have re8b := RG.hb re8
    have re8n := RG.hl re8
    refine GOps.nil ?_
    refine GWP.seq ?_
    refine GWP.seq ?_
    refine GWP.region ?_
    refine GOps.r rfl rfl rfl rfl (grd_move rfl rfl) ?_
    focus
      refine GOps.w1 rfl rfl rfl rfl (gop_call rfl Try.call33 rfl ?_ (g_failed _ _ ?_ ?_ ?_ ?_)) ?_
      · intro _ h; cases h; done
      rotate_left 3
      · assumption
    refine GOps.r rfl rfl rfl rfl (grd_neq rfl rfl rfl) ?_
    refine GOps.nil ?_
    refine GWP.cond_t rfl ?_ ?_
    · simp; done
    refine GWP.seq ?_
    refine GWP.region ?_
    refine GOps.r rfl rfl rfl rfl (grd_assign rfl rfl) ?_
    refine GOps.nil ?_
    refine GWP.ret ?_
    refine ⟨_, .one rfl, ?_⟩
    refine ⟨?_, ?_⟩
    · exact ⟨none, 0, 0, rfl, by rw [if_neg (by omega), if_pos (by omega)]; exact .none⟩
    refine ⟨?_, ?_⟩
    · exact ⟨_, _, by rw [if_neg (by omega), if_pos (by omega)]; assumption⟩
    refine ⟨?_, ?_⟩
    · exact BSk.trans (by assumption) (by assumption)
    refine HExt.tr ?_ (by assumption) ?_
    · assumption
    · simp; done
    simp only [beq_true, beq_false, Bool.not_true, Bool.not_false, Bool.not_eq_true', Bool.not_eq_false', decide_eq_true_eq, decide_eq_false_iff_not] at e7
    refine GWP.skip ?_
    refine GWP.seq ?_
    refine GWP.seq ?_
    refine GWP.region ?_
    refine GOps.r rfl rfl rfl rfl (grd_move rfl rfl) ?_
    focus
      refine GOps.w1 rfl rfl rfl rfl (gop_call rfl Try.call33 rfl ?_ (g_failed _ _ ?_ ?_ ?_ ?_)) ?_
      · intro _ h; cases h; done
      rotate_left 3
      · assumption
    refine GOps.r rfl rfl rfl rfl (grd_neq rfl rfl rfl) ?_
    refine GOps.nil ?_
    refine GWP.cond_f rfl ?_ ?_
    · exact decide_eq_false (by omega)
    refine GWP.skip ?_
    refine GWP.seq ?_
    refine GWP.region ?_
    refine GOps.r rfl rfl rfl rfl (grd_move rfl rfl) ?_
    refine GOps.r rfl rfl rfl rfl (grd_nil rfl rfl) ?_
    refine GOps.r rfl rfl rfl rfl (grd_fieldAddr tab_is rfl rfl rfl rfl rfl) ?_
    focus
      refine GOps.r rfl rfl rfl rfl (grd_load1 (b := ?_) (v := ?_) tab_is rfl rfl rfl rfl ?_ ?_) ?_
      rotate_left 2
      · assumption
      · rfl
    refine GOps.r rfl rfl rfl rfl (grd_move rfl rfl) ?_
    refine GOps.r rfl rfl rfl rfl (grd_move rfl rfl) ?_
    focus
      refine gops_bs rfl rfl rfl rfl (grd_slBSm (l := ?_) (h := ?_) (m := ?_) (q := 0) (m2 := ?_) (L := ?_) (M := ?_) tab_is rfl rfl rfl rfl ?_ ?_ ?_ ?_ rfl ?_ ?_ ?_ ?_ ?_) ?_
      rotate_left 6
      · assumption
      · exact rfl
      · refine gbound_tmp rfl ?_; exact rfl
      · refine gbound_tmp rfl ?_; exact rfl
      · omega
      · omega
      · omega
      · simp; rfl
      · simp only [List.drop_zero]; rfl
    intro pe11 ce11 e11
    have e11n := BS.len e11
    refine GOps.r rfl rfl rfl rfl (grd_assign rfl rfl) ?_
    refine GOps.nil ?_
    refine GWP.seq ?_
    refine GWP.region ?_
    refine GOps.r rfl rfl rfl rfl (grd_move rfl rfl) ?_
    refine GOps.r rfl rfl rfl rfl (grd_move rfl rfl) ?_
    refine GOps.r rfl rfl rfl rfl (grd_nil rfl rfl) ?_
    refine GOps.r rfl rfl rfl rfl (grd_fieldAddr tab_is rfl rfl rfl rfl rfl) ?_
    focus
      refine GOps.r rfl rfl rfl rfl (grd_load1 (b := ?_) (v := ?_) tab_is rfl rfl rfl rfl ?_ ?_) ?_
      rotate_left 2
      · assumption
      · rfl
    refine GOps.r rfl rfl rfl rfl (grd_move rfl rfl) ?_
    focus
      refine gops_bs rfl rfl rfl rfl (grd_slBS (l := ?_) (h := ?_) (m2 := ?_) (L := ?_) (M := ?_) tab_is rfl rfl rfl rfl ?_ ?_ ?_ ?_ ?_ ?_ ?_) ?_
      rotate_left 5
      · assumption
      · refine gbound_tmp rfl ?_; exact rfl
      · exact rfl
      · omega
      · omega
      · rfl
      · refine Eq.trans (List.take_of_length_le ?_) ?_; rotate_left 1; rfl; (simp; done)
    intro pe12 ce12 e12
    have e12n := BS.len e12
    refine GOps.r rfl rfl rfl rfl (grd_nil rfl rfl) ?_
    refine GOps.r rfl rfl rfl rfl (grd_fieldAddr tab_is rfl rfl rfl rfl rfl) ?_
    focus
      refine GOps.s rfl rfl rfl (gop_store1 (b := ?_) tab_is rfl rfl rfl rfl rfl rfl ?_ ?_ ?_ ?_) ?_
      rotate_left 1
      · assumption
      · rfl
      · exact Nat.le_of_ble_eq_true rfl
      · exact .inl (by simp)
    refine GOps.nil ?_
    refine GWP.seq ?_
    refine GWP.region ?_
    refine GOps.r rfl rfl rfl rfl (grd_move rfl rfl) ?_
    refine GOps.r rfl rfl rfl rfl (grd_assign rfl rfl) ?_
    refine GOps.nil ?_
    refine GWP.ret ?_
    refine ⟨_, .one rfl, ?_⟩
    refine ⟨?_, ?_⟩
    · exact ⟨_, _, _, rfl, by rw [if_neg (by omega), if_neg (by omega)]; exact rg_bsk re3 _ _ _ _ (by assumption)⟩
    refine ⟨?_, ?_⟩
    · exact ⟨_, _, by rw [if_neg (by omega), if_neg (by omega)]; exact rg_put (s' := ⟨s2.l.drop n, 0⟩) re3 e12 (by simp) (by simp only [List.length_drop]; omega) (by simp only; omega)⟩
    refine ⟨?_, ?_⟩
    · exact ke4.trans (rg_bsk re3 _ _)
    refine HExt.put ?_ ?_
    · assumption
    · exact .inl (by simp)
    simp only [beq_true, beq_false, Bool.not_true, Bool.not_false, Bool.not_eq_true', Bool.not_eq_false', decide_eq_true_eq, decide_eq_false_iff_not] at e6
    refine GOps.no rfl ?_ rfl rfl ?_
    · exact beq_eq_false_iff_ne.2 (by rw [decide_eq_false (by assumption)]; decide)
    refine GOps.no rfl ?_ rfl rfl ?_
    · exact beq_eq_false_iff_ne.2 (by rw [decide_eq_false (by assumption)]; decide)
    refine GOps.no rfl ?_ rfl rfl ?_
    · exact beq_eq_false_iff_ne.2 (by rw [decide_eq_false (by assumption)]; decide)
    refine GOps.no rfl ?_ rfl rfl ?_
    · exact beq_eq_false_iff_ne.2 (by rw [decide_eq_false (by assumption)]; decide)
    refine GOps.no rfl ?_ rfl rfl ?_
    · exact beq_eq_false_iff_ne.2 (by rw [decide_eq_false (by assumption)]; decide)
    refine GOps.no rfl ?_ rfl rfl ?_
    · exact beq_eq_false_iff_ne.2 (by rw [decide_eq_false (by assumption)]; decide)
    refine GOps.no rfl ?_ rfl rfl ?_
    · exact beq_eq_false_iff_ne.2 (by rw [decide_eq_false (by assumption)]; decide)
    refine GOps.r rfl rfl rfl rfl (grd_pick_f rfl rfl ?_ rfl) ?_
    · exact decide_eq_false (by assumption)
    refine GOps.nil ?_
    refine GWP.cond_f rfl ?_ ?_
    · with_reducible rfl
    refine GWP.skip ?_
    refine GWP.seq ?_
    refine GWP.seq ?_
    refine GWP.region ?_
    refine GOps.r rfl rfl rfl rfl (grd_move rfl rfl) ?_
    focus
      refine GOps.w1 rfl rfl rfl rfl (gop_call rfl Try.call33 rfl ?_ (g_failed _ _ ?_ ?_ ?_ ?_)) ?_
      · intro _ h; cases h; done
      rotate_left 3
      · assumption
    refine GOps.r rfl rfl rfl rfl (grd_neq rfl rfl rfl) ?_
    refine GOps.nil ?_
    refine GWP.cond_t rfl ?_ ?_
    · exact decide_eq_true (by assumption)
    refine GWP.seq ?_
    refine GWP.region ?_
    refine GOps.r rfl rfl rfl rfl (grd_assign rfl rfl) ?_
    refine GOps.nil ?_
    refine GWP.ret ?_
    refine ⟨_, .one rfl, ?_⟩
    refine ⟨?_, ?_⟩
    · exact ⟨none, 0, 0, rfl, by rw [if_pos (by omega)]; exact .none⟩
    refine ⟨?_, ?_⟩
    · exact ⟨_, _, by rw [if_pos (by omega)]; assumption⟩
    refine ⟨?_, ?_⟩
    · assumption
    · assumption
set_option maxHeartbeats 4000000 in
set_option maxRecDepth 100000 in
set_option linter.unusedSimpArgs false in
theorem g_rnext (H : Hp) (p : Option Addr) (n c : Nat) (L : List UInt8) (hb : BS H (.slice p n c) L) (hn : n ≤ 9223372036854775000) : GCalls Try.prog 52 [.slice p n c] [] H fun v H' => v = .tuple #[.int .u64 ((next L).1 : Int), .int .i64 ((next L).2.1 : Int), .int .i64 ((next L).2.2 : Int)] ∧ H' = H := by
  refine GCalls.plain1 hb (fun _ => .tuple (.cons (.int _ _) (.cons (.int _ _) (.cons (.int _ _) .nil)))) fun A c' w h1 h2 h3 h4 h5 => ?_
  refine (refnext_any A n c' _ L w h1 hn h5).mono fun e w' ⟨e1, e2⟩ => ⟨e1, ?_⟩
  subst e2
  exact Below.refl _ _
set_option maxHeartbeats 4000000 in
set_option maxRecDepth 100000 in
set_option linter.unusedSimpArgs false in
theorem g_rnumber (H : Hp) (g : Nat) (p : Option Addr) (c : Nat) (s : RdS) (most : Int) (h0 : 0 ≤ most) (h : RG 61 H g p c s) : GCalls Try.prog 27 [.pointer (some ⟨g, 0, none⟩), .int .u64 most] [g] H fun v H' => v = .int .u64 ((s.number most.toNat).1 : Int) ∧ (∃ p' c', RG 61 H' g p' c' (s.number most.toNat).2) ∧ BSk H H' ∧ HExt [g] H H' := by
  have hg := h.hg
  have hb := h.hb
  have hl := h.hl
  unfold rdBlk at hg
  have hlt := Hp.at_lt hg
  have hsz := next_size s.l
  refine GCalls.body tab_is Try.func27 rfl Try.results27 Try.ntmps27 (by simp) ?_ ?_
  · first | (intro _ h; cases h; done) | (simp; done) | (simp; omega) | (intro i hi; simp at hi; rcases hi with rfl | rfl <;> omega) | (intro i hi; simp at hi; rcases hi with rfl | rfl | rfl <;> omega)
  focus
    refine GWP.seq ?_
    refine GWP.region ?_
    refine GOps.r rfl rfl rfl rfl (grd_assign rfl rfl) ?_
    refine GOps.nil ?_
    refine GWP.seq ?_
    refine GWP.seq ?_
    refine GWP.region ?_
    refine GOps.r rfl rfl rfl rfl (grd_move rfl rfl) ?_
    refine GOps.r rfl rfl rfl rfl (grd_nil rfl rfl) ?_
    refine GOps.r rfl rfl rfl rfl (grd_fieldAddr tab_is rfl rfl rfl rfl rfl) ?_
    focus
      refine GOps.r rfl rfl rfl rfl (grd_load1 (b := ?_) (v := ?_) tab_is rfl rfl rfl rfl ?_ ?_) ?_
      rotate_left 2
      · assumption
      · rfl
    refine GOps.r rfl rfl rfl rfl (grd_neq rfl rfl rfl) ?_
    refine GOps.nil ?_
    refine GWP.cond rfl (fun f1 => ?_) (fun f1 => ?_)
    simp only [beq_true, beq_false, Bool.not_true, Bool.not_false, Bool.not_eq_true', Bool.not_eq_false', decide_eq_true_eq, decide_eq_false_iff_not] at f1
    refine GWP.seq ?_
    refine GWP.region ?_
    refine GOps.r rfl rfl rfl rfl (grd_assign rfl rfl) ?_
    refine GOps.nil ?_
    refine GWP.ret ?_
    refine ⟨_, .one rfl, ?_⟩
    refine ⟨?_, ?_⟩
    rotate_left 1
    refine ⟨?_, ?_⟩
    rotate_left 1
    refine ⟨?_, ?_⟩
    · exact BSk.refl _
    · exact HExt.refl _ _
    simp only [beq_true, beq_false, Bool.not_true, Bool.not_false, Bool.not_eq_true', Bool.not_eq_false', decide_eq_true_eq, decide_eq_false_iff_not] at f1
    refine GWP.skip ?_
    refine GWP.seq ?_
    refine GWP.region ?_
    refine GOps.r rfl rfl rfl rfl (grd_move rfl rfl) ?_
    refine GOps.r rfl rfl rfl rfl (grd_nil rfl rfl) ?_
    refine GOps.r rfl rfl rfl rfl (grd_fieldAddr tab_is rfl rfl rfl rfl rfl) ?_
    focus
      refine GOps.r rfl rfl rfl rfl (grd_load1 (b := ?_) (v := ?_) tab_is rfl rfl rfl rfl ?_ ?_) ?_
      rotate_left 2
      · assumption
      · rfl
    focus
      refine GOps.w1 rfl rfl rfl rfl (gop_call rfl Try.call52 rfl ?_ (g_rnext _ _ _ _ ?_ ?_ ?_)) ?_
      · intro _ h; cases h; done
      rotate_left 1
      · assumption
      · omega
    refine GOps.r rfl rfl rfl rfl (grd_move rfl rfl) ?_
    focus
      refine GOps.r rfl rfl rfl rfl (grd_extract (v := ?_) rfl rfl ?_) ?_
      rotate_left 1
      · simp only [List.getElem?_toArray, List.getElem?_cons_zero, List.getElem?_cons_succ]; rfl
    focus
      refine GOps.r rfl rfl rfl rfl (grd_extract (v := ?_) rfl rfl ?_) ?_
      rotate_left 1
      · simp only [List.getElem?_toArray, List.getElem?_cons_zero, List.getElem?_cons_succ]; rfl
    focus
      refine GOps.r rfl rfl rfl rfl (grd_extract (v := ?_) rfl rfl ?_) ?_
      rotate_left 1
      · simp only [List.getElem?_toArray, List.getElem?_cons_zero, List.getElem?_cons_succ]; rfl
    refine GOps.r rfl rfl rfl rfl (grd_assign rfl rfl) ?_
    refine GOps.r rfl rfl rfl rfl (grd_assign rfl rfl) ?_
    refine GOps.r rfl rfl rfl rfl (grd_assign rfl rfl) ?_
    refine GOps.nil ?_
    refine GWP.seq ?_
    refine GWP.seq ?_
    refine GWP.region ?_
    refine GOps.r rfl rfl rfl rfl (grd_move rfl rfl) ?_
    refine GOps.r rfl rfl rfl rfl (grd_eql rfl rfl rfl) ?_
    refine GOps.r rfl rfl rfl rfl (grd_move rfl rfl) ?_
    refine GOps.split rfl rfl (fun f2 => ?_) (fun f2 => ?_)
    simp only [beq_true, beq_false, Bool.not_true, Bool.not_false, Bool.not_eq_true', Bool.not_eq_false', decide_eq_true_eq, decide_eq_false_iff_not] at f2
    refine GOps.take rfl rfl ?_ ?_
    · exact beq_iff_eq.2 (decide_eq_true (by assumption))
    refine GOps.r rfl rfl rfl rfl (grd_move rfl rfl) ?_
    refine GOps.take rfl rfl ?_ ?_
    · exact beq_iff_eq.2 (decide_eq_true (by assumption))
    refine GOps.r rfl rfl rfl rfl (grd_move rfl rfl) ?_
    refine GOps.take rfl rfl ?_ ?_
    · exact beq_iff_eq.2 (decide_eq_true (by assumption))
    refine GOps.r rfl rfl rfl rfl (grd_gtr rfl rfl rfl) ?_
    refine GOps.r rfl rfl rfl rfl (grd_pick_t rfl rfl ?_ rfl) ?_
    · exact decide_eq_true (by assumption)
    refine GOps.nil ?_
    refine GWP.cond rfl (fun f3 => ?_) (fun f3 => ?_)
    simp only [beq_true, beq_false, Bool.not_true, Bool.not_false, Bool.not_eq_true', Bool.not_eq_false', decide_eq_true_eq, decide_eq_false_iff_not] at f3
    refine GWP.region ?_
    refine GOps.r rfl rfl rfl rfl (grd_assign rfl rfl) ?_
    refine GOps.nil ?_
    refine GWP.seq ?_
    refine GWP.seq ?_
    refine GWP.region ?_
    refine GOps.r rfl rfl rfl rfl (grd_move rfl rfl) ?_
    refine GOps.r rfl rfl rfl rfl (grd_neq rfl rfl rfl) ?_
    refine GOps.nil ?_
    refine GWP.cond_t rfl ?_ ?_
    · exact decide_eq_true (by omega)
    refine GWP.seq ?_
    refine GWP.region ?_
    refine GOps.r rfl rfl rfl rfl (grd_move rfl rfl) ?_
    refine GOps.r rfl rfl rfl rfl (grd_move rfl rfl) ?_
    refine GOps.r rfl rfl rfl rfl (grd_nil rfl rfl) ?_
    refine GOps.r rfl rfl rfl rfl (grd_fieldAddr tab_is rfl rfl rfl rfl rfl) ?_
    focus
      refine GOps.s rfl rfl rfl (gop_store1 (b := ?_) tab_is rfl rfl rfl rfl rfl rfl ?_ ?_ ?_ ?_) ?_
      rotate_left 1
      · assumption
      · rfl
      · exact Nat.le_of_ble_eq_true rfl
      · exact .inl (by simp)
    refine GOps.nil ?_
    refine GWP.seq ?_
    refine GWP.region ?_
    refine GOps.r rfl rfl rfl rfl (grd_assign rfl rfl) ?_
    refine GOps.nil ?_
    refine GWP.ret ?_
    refine ⟨_, .one rfl, ?_⟩
    refine ⟨?_, ?_⟩
    rotate_left 1
    refine ⟨?_, ?_⟩
    rotate_left 1
    refine ⟨?_, ?_⟩
    · exact rg_bsk h _ _
    refine HExt.put ?_ ?_
    · exact HExt.refl _ _
    · exact .inl (by simp)
    simp only [beq_true, beq_false, Bool.not_true, Bool.not_false, Bool.not_eq_true', Bool.not_eq_false', decide_eq_true_eq, decide_eq_false_iff_not] at f3
    refine GWP.skip ?_
    refine GWP.seq ?_
    refine GWP.seq ?_
    refine GWP.region ?_
    refine GOps.r rfl rfl rfl rfl (grd_move rfl rfl) ?_
    refine GOps.r rfl rfl rfl rfl (grd_neq rfl rfl rfl) ?_
    refine GOps.nil ?_
    refine GWP.cond_f rfl ?_ ?_
    · exact decide_eq_false (by omega)
    refine GWP.skip ?_
    refine GWP.seq ?_
    refine GWP.region ?_
    refine GOps.r rfl rfl rfl rfl (grd_move rfl rfl) ?_
    refine GOps.r rfl rfl rfl rfl (grd_move rfl rfl) ?_
    refine GOps.r rfl rfl rfl rfl (grd_nil rfl rfl) ?_
    refine GOps.r rfl rfl rfl rfl (grd_fieldAddr tab_is rfl rfl rfl rfl rfl) ?_
    focus
      refine GOps.r rfl rfl rfl rfl (grd_load1 (b := ?_) (v := ?_) tab_is rfl rfl rfl rfl ?_ ?_) ?_
      rotate_left 2
      · assumption
      · rfl
    refine GOps.r rfl rfl rfl rfl (grd_move rfl rfl) ?_
    focus
      refine gops_bs rfl rfl rfl rfl (grd_slBS (l := ?_) (h := ?_) (m2 := ?_) (L := ?_) (M := ?_) tab_is rfl rfl rfl rfl ?_ ?_ ?_ ?_ ?_ ?_ ?_) ?_
      rotate_left 5
      · assumption
      · refine gbound_tmp rfl ?_; exact rfl
      · exact rfl
      · omega
      · omega
      · rfl
      · refine Eq.trans (List.take_of_length_le ?_) ?_; rotate_left 1; rfl; (simp; done)
    intro pf4 cf4 f4
    have f4n := BS.len f4
    refine GOps.r rfl rfl rfl rfl (grd_nil rfl rfl) ?_
    refine GOps.r rfl rfl rfl rfl (grd_fieldAddr tab_is rfl rfl rfl rfl rfl) ?_
    focus
      refine GOps.s rfl rfl rfl (gop_store1 (b := ?_) tab_is rfl rfl rfl rfl rfl rfl ?_ ?_ ?_ ?_) ?_
      rotate_left 1
      · assumption
      · rfl
      · exact Nat.le_of_ble_eq_true rfl
      · exact .inl (by simp)
    refine GOps.nil ?_
    refine GWP.seq ?_
    refine GWP.region ?_
    refine GOps.r rfl rfl rfl rfl (grd_move rfl rfl) ?_
    refine GOps.r rfl rfl rfl rfl (grd_assign rfl rfl) ?_
    refine GOps.nil ?_
    refine GWP.ret ?_
    refine ⟨_, .one rfl, ?_⟩
    refine ⟨?_, ?_⟩
    rotate_left 1
    refine ⟨?_, ?_⟩
    rotate_left 1
    refine ⟨?_, ?_⟩
    · exact rg_bsk h _ _
    refine HExt.put ?_ ?_
    · exact HExt.refl _ _
    · exact .inl (by simp)
    simp only [beq_true, beq_false, Bool.not_true, Bool.not_false, Bool.not_eq_true', Bool.not_eq_false', decide_eq_true_eq, decide_eq_false_iff_not] at f2
    refine GOps.no rfl ?_ rfl rfl ?_
    · exact beq_eq_false_iff_ne.2 (by rw [decide_eq_false (by assumption)]; decide)
    refine GOps.no rfl ?_ rfl rfl ?_
    · exact beq_eq_false_iff_ne.2 (by rw [decide_eq_false (by assumption)]; decide)
    refine GOps.no rfl ?_ rfl rfl ?_
    · exact beq_eq_false_iff_ne.2 (by rw [decide_eq_false (by assumption)]; decide)
    refine GOps.r rfl rfl rfl rfl (grd_pick_f rfl rfl ?_ rfl) ?_
    · exact decide_eq_false (by assumption)
    refine GOps.nil ?_
    refine GWP.cond_f rfl ?_ ?_
    · with_reducible rfl
    refine GWP.skip ?_
    refine GWP.seq ?_
    refine GWP.seq ?_
    refine GWP.region ?_
    refine GOps.r rfl rfl rfl rfl (grd_move rfl rfl) ?_
    refine GOps.r rfl rfl rfl rfl (grd_neq rfl rfl rfl) ?_
    refine GOps.nil ?_
    refine GWP.cond_t rfl ?_ ?_
    · exact decide_eq_true (by assumption)
    refine GWP.seq ?_
    refine GWP.region ?_
    refine GOps.r rfl rfl rfl rfl (grd_move rfl rfl) ?_
    refine GOps.r rfl rfl rfl rfl (grd_move rfl rfl) ?_
    refine GOps.r rfl rfl rfl rfl (grd_nil rfl rfl) ?_
    refine GOps.r rfl rfl rfl rfl (grd_fieldAddr tab_is rfl rfl rfl rfl rfl) ?_
    focus
      refine GOps.s rfl rfl rfl (gop_store1 (b := ?_) tab_is rfl rfl rfl rfl rfl rfl ?_ ?_ ?_ ?_) ?_
      rotate_left 1
      · assumption
      · rfl
      · exact Nat.le_of_ble_eq_true rfl
      · exact .inl (by simp)
    refine GOps.nil ?_
    refine GWP.seq ?_
    refine GWP.region ?_
    refine GOps.r rfl rfl rfl rfl (grd_assign rfl rfl) ?_
    refine GOps.nil ?_
    refine GWP.ret ?_
    refine ⟨_, .one rfl, ?_⟩
    refine ⟨?_, ?_⟩
    rotate_left 1
    refine ⟨?_, ?_⟩
    rotate_left 1
    refine ⟨?_, ?_⟩
    · exact rg_bsk h _ _
    refine HExt.put ?_ ?_
    · exact HExt.refl _ _
    · exact .inl (by simp)
  · rw [num1 f1]; rfl
  · exact ⟨_, _, by rw [num1 f1]; exact h⟩
  · rw [num3 h0 f1 f2 f3]; rfl
  · exact ⟨_, _, by rw [num3 h0 f1 f2 f3]; exact rg_put (s' := ⟨s.l, 5⟩) h hb rfl hl rfl⟩
  · rw [num4 f1 f2 f3]
  · exact ⟨_, _, by rw [num4 f1 f2 f3]; exact rg_put (s' := ⟨s.l.drop (next s.l).2.1, 0⟩) h f4 (by simp) (by simp only [List.length_drop]; omega) (by simp only; omega)⟩
  · rw [num2 f1 f2]; rfl
  · exact ⟨_, _, by rw [num2 f1 f2]; exact rg_put (s' := ⟨s.l, (next s.l).2.2⟩) h hb rfl hl rfl⟩
set_option maxHeartbeats 4000000 in
set_option maxRecDepth 100000 in
set_option linter.unusedSimpArgs false in
theorem g_rbytes (H : Hp) (g : Nat) (p : Option Addr) (c : Nat) (s : RdS) (most : Int) (hm : most ≤ 9223372036854775807) (h : RG 61 H g p c s) : GCalls Try.prog 39 [.pointer (some ⟨g, 0, none⟩), .int .i64 most] [g] H fun v H' => (∃ p' n' c', v = .slice p' n' c' ∧ BS H' (.slice p' n' c') (s.bytes most).1) ∧ (∃ p' c', RG 61 H' g p' c' (s.bytes most).2) ∧ BSk H H' ∧ HExt [g] H H' := by
  have hlt := Hp.at_lt h.hg
  have hle := number_le' s (max most 0).toNat
  generalize hN : s.number (max most 0).toNat = R at hle
  have hby : s.bytes most = if R.2.e ≠ 0 then ([], R.2) else if R.2.l.length < R.1 then ([], ⟨R.2.l, 2⟩) else (R.2.l.take R.1, ⟨R.2.l.drop R.1, 0⟩) := by rw [RdS.bytes, hN]
  have hcon : ∀ (m : Int) (H : Hp) (p : Option Addr) (c : Nat), m = max most 0 → RG 61 H g p c s → GCalls Try.prog 27 [.pointer (some ⟨g, 0, none⟩), .int .u64 m] [g] H fun v H' => v = .int .u64 (R.1 : Int) ∧ (∃ p' c', RG 61 H' g p' c' R.2) ∧ BSk H H' ∧ HExt [g] H H' := fun m H p c hm h => by
    have h1 := g_rnumber H g p c s m (by omega) h
    rw [hm, hN] at h1
    rw [hm]
    exact h1
  rw [hby]
  clear hby hN
  obtain ⟨n, s2⟩ := R
  simp only at hle hcon ⊢
  refine GCalls.body tab_is Try.func39 rfl Try.results39 Try.ntmps39 (by simp) ?_ ?_
  · first | (intro _ h; cases h; done) | (simp; done) | (simp; omega) | (intro i hi; simp at hi; rcases hi with rfl | rfl <;> omega) | (intro i hi; simp at hi; rcases hi with rfl | rfl | rfl <;> omega)
  focus
    refine GWP.seq ?_
    refine GWP.region ?_
    refine GOps.r rfl rfl rfl rfl (grd_assign rfl rfl) ?_
    refine GOps.nil ?_
    refine GWP.seq ?_
    refine GWP.seq ?_
    refine GWP.region ?_
    refine GOps.r rfl rfl rfl rfl (grd_move rfl rfl) ?_
    refine GOps.r rfl rfl rfl rfl (grd_lss rfl rfl rfl) ?_
    refine GOps.nil ?_
    refine GWP.cond rfl (fun h1 => ?_) (fun h1 => ?_)
    simp only [beq_true, beq_false, Bool.not_true, Bool.not_false, Bool.not_eq_true', Bool.not_eq_false', decide_eq_true_eq, decide_eq_false_iff_not] at h1
    refine GWP.region ?_
    refine GOps.r rfl rfl rfl rfl (grd_assign rfl rfl) ?_
    refine GOps.nil ?_
    refine GWP.seq ?_
    refine GWP.region ?_
    refine GOps.r rfl rfl rfl rfl (grd_move rfl rfl) ?_
    refine GOps.r rfl rfl rfl rfl (grd_move rfl rfl) ?_
    refine GOps.r rfl rfl rfl rfl (grd_conv_in tab_is rfl rfl rfl rfl rfl ?_) ?_
    · refine wrap_u64_in ?_; omega
    focus
      refine GOps.w rfl rfl rfl rfl (gop_call rfl Try.call27 rfl ?_ (hcon _ _ ?_ ?_ ?_ ?_)) ?_
      · simp [Ctx.may]; done
      rotate_left 2
      · omega
      · assumption
    rintro _ _ ⟨rfl, ⟨ph2, ch3, rh4⟩, kh5, xh6⟩
    have xh6l := HExt.len xh6; try simp at xh6l
    have rh4g := RG.hg rh4; unfold rdBlk at rh4g
    have rh4b := RG.hb rh4
    have rh4n := RG.hl rh4
    refine GOps.r rfl rfl rfl rfl (grd_conv_in tab_is rfl rfl rfl rfl rfl ?_) ?_
    · refine wrap_i64_in ?_; omega
    refine GOps.r rfl rfl rfl rfl (grd_assign rfl rfl) ?_
    refine GOps.nil ?_
    refine GWP.seq ?_
    refine GWP.seq ?_
    refine GWP.region ?_
    refine GOps.r rfl rfl rfl rfl (grd_move rfl rfl) ?_
    refine GOps.r rfl rfl rfl rfl (grd_nil rfl rfl) ?_
    refine GOps.r rfl rfl rfl rfl (grd_fieldAddr tab_is rfl rfl rfl rfl rfl) ?_
    focus
      refine GOps.r rfl rfl rfl rfl (grd_load1 (b := ?_) (v := ?_) tab_is rfl rfl rfl rfl ?_ ?_) ?_
      rotate_left 2
      · assumption
      · rfl
    refine GOps.r rfl rfl rfl rfl (grd_eql rfl rfl rfl) ?_
    refine GOps.r rfl rfl rfl rfl (grd_move rfl rfl) ?_
    refine GOps.split rfl rfl (fun h7 => ?_) (fun h7 => ?_)
    simp only [beq_true, beq_false, Bool.not_true, Bool.not_false, Bool.not_eq_true', Bool.not_eq_false', decide_eq_true_eq, decide_eq_false_iff_not] at h7
    refine GOps.take rfl rfl ?_ ?_
    · exact beq_iff_eq.2 (decide_eq_true (by assumption))
    refine GOps.r rfl rfl rfl rfl (grd_move rfl rfl) ?_
    refine GOps.take rfl rfl ?_ ?_
    · exact beq_iff_eq.2 (decide_eq_true (by assumption))
    refine GOps.r rfl rfl rfl rfl (grd_move rfl rfl) ?_
    refine GOps.take rfl rfl ?_ ?_
    · exact beq_iff_eq.2 (decide_eq_true (by assumption))
    refine GOps.r rfl rfl rfl rfl (grd_nil rfl rfl) ?_
    refine GOps.take rfl rfl ?_ ?_
    · exact beq_iff_eq.2 (decide_eq_true (by assumption))
    refine GOps.r rfl rfl rfl rfl (grd_fieldAddr tab_is rfl rfl rfl rfl rfl) ?_
    refine GOps.take rfl rfl ?_ ?_
    · exact beq_iff_eq.2 (decide_eq_true (by assumption))
    focus
      refine GOps.r rfl rfl rfl rfl (grd_load1 (b := ?_) (v := ?_) tab_is rfl rfl rfl rfl ?_ ?_) ?_
      rotate_left 2
      · assumption
      · rfl
    refine GOps.take rfl rfl ?_ ?_
    · exact beq_iff_eq.2 (decide_eq_true (by assumption))
    refine GOps.r rfl rfl rfl rfl (grd_len tab_is rfl rfl rfl rfl rfl) ?_
    refine GOps.take rfl rfl ?_ ?_
    · exact beq_iff_eq.2 (decide_eq_true (by assumption))
    refine GOps.r rfl rfl rfl rfl (grd_gtr rfl rfl rfl) ?_
    refine GOps.r rfl rfl rfl rfl (grd_pick_t rfl rfl ?_ rfl) ?_
    · exact decide_eq_true (by assumption)
    refine GOps.nil ?_
    refine GWP.cond_f rfl ?_ ?_
    · exact decide_eq_false (by omega)
    refine GWP.skip ?_
    refine GWP.seq ?_
    refine GWP.seq ?_
    refine GWP.region ?_
    refine GOps.r rfl rfl rfl rfl (grd_move rfl rfl) ?_
    refine GOps.r rfl rfl rfl rfl (grd_nil rfl rfl) ?_
    refine GOps.r rfl rfl rfl rfl (grd_fieldAddr tab_is rfl rfl rfl rfl rfl) ?_
    focus
      refine GOps.r rfl rfl rfl rfl (grd_load1 (b := ?_) (v := ?_) tab_is rfl rfl rfl rfl ?_ ?_) ?_
      rotate_left 2
      · assumption
      · rfl
    refine GOps.r rfl rfl rfl rfl (grd_neq rfl rfl rfl) ?_
    refine GOps.nil ?_
    refine GWP.cond_f rfl ?_ ?_
    · exact decide_eq_false (by omega)
    refine GWP.skip ?_
    refine GWP.seq ?_
    refine GWP.region ?_
    refine GOps.r rfl rfl rfl rfl (grd_move rfl rfl) ?_
    refine GOps.r rfl rfl rfl rfl (grd_nil rfl rfl) ?_
    refine GOps.r rfl rfl rfl rfl (grd_fieldAddr tab_is rfl rfl rfl rfl rfl) ?_
    focus
      refine GOps.r rfl rfl rfl rfl (grd_load1 (b := ?_) (v := ?_) tab_is rfl rfl rfl rfl ?_ ?_) ?_
      rotate_left 2
      · assumption
      · rfl
    refine GOps.r rfl rfl rfl rfl (grd_move rfl rfl) ?_
    focus
      refine gops_bs rfl rfl rfl rfl (grd_slBS (l := ?_) (h := ?_) (m2 := ?_) (L := ?_) (M := ?_) tab_is rfl rfl rfl rfl ?_ ?_ ?_ ?_ ?_ ?_ ?_) ?_
      rotate_left 5
      · assumption
      · exact rfl
      · refine gbound_tmp rfl ?_; exact rfl
      · omega
      · omega
      · simp; rfl
      · simp only [List.drop_zero]; rfl
    intro ph8 ch8 h8
    have h8n := BS.len h8
    refine GOps.r rfl rfl rfl rfl (grd_assign rfl rfl) ?_
    refine GOps.nil ?_
    refine GWP.seq ?_
    refine GWP.region ?_
    refine GOps.r rfl rfl rfl rfl (grd_move rfl rfl) ?_
    refine GOps.r rfl rfl rfl rfl (grd_move rfl rfl) ?_
    refine GOps.r rfl rfl rfl rfl (grd_nil rfl rfl) ?_
    refine GOps.r rfl rfl rfl rfl (grd_fieldAddr tab_is rfl rfl rfl rfl rfl) ?_
    focus
      refine GOps.r rfl rfl rfl rfl (grd_load1 (b := ?_) (v := ?_) tab_is rfl rfl rfl rfl ?_ ?_) ?_
      rotate_left 2
      · assumption
      · rfl
    refine GOps.r rfl rfl rfl rfl (grd_move rfl rfl) ?_
    focus
      refine gops_bs rfl rfl rfl rfl (grd_slBS (l := ?_) (h := ?_) (m2 := ?_) (L := ?_) (M := ?_) tab_is rfl rfl rfl rfl ?_ ?_ ?_ ?_ ?_ ?_ ?_) ?_
      rotate_left 5
      · assumption
      · refine gbound_tmp rfl ?_; exact rfl
      · exact rfl
      · omega
      · omega
      · rfl
      · refine Eq.trans (List.take_of_length_le ?_) ?_; rotate_left 1; rfl; (simp; done)
    intro ph9 ch9 h9
    have h9n := BS.len h9
    refine GOps.r rfl rfl rfl rfl (grd_nil rfl rfl) ?_
    refine GOps.r rfl rfl rfl rfl (grd_fieldAddr tab_is rfl rfl rfl rfl rfl) ?_
    focus
      refine GOps.s rfl rfl rfl (gop_store1 (b := ?_) tab_is rfl rfl rfl rfl rfl rfl ?_ ?_ ?_ ?_) ?_
      rotate_left 1
      · assumption
      · rfl
      · exact Nat.le_of_ble_eq_true rfl
      · exact .inl (by simp)
    refine GOps.nil ?_
    refine GWP.seq ?_
    refine GWP.region ?_
    refine GOps.r rfl rfl rfl rfl (grd_move rfl rfl) ?_
    refine GOps.r rfl rfl rfl rfl (grd_assign rfl rfl) ?_
    refine GOps.nil ?_
    refine GWP.ret ?_
    refine ⟨_, .one rfl, ?_⟩
    refine ⟨?_, ?_⟩
    · exact ⟨_, _, _, rfl, by rw [if_neg (by omega), if_neg (by omega)]; exact rg_bsk ‹RG _ _ _ _ _ s2› _ _ _ _ (by assumption)⟩
    refine ⟨?_, ?_⟩
    · exact ⟨_, _, by rw [if_neg (by omega), if_neg (by omega)]; exact rg_put (s' := ⟨s2.l.drop n, 0⟩) ‹RG _ _ _ _ _ s2› (by assumption) (by simp) (by simp only [List.length_drop]; omega) (by simp only; omega)⟩
    refine ⟨?_, ?_⟩
    · exact BSk.trans (by assumption) (rg_bsk ‹RG _ _ _ _ _ s2› _ _)
    refine HExt.put ?_ ?_
    · assumption
    · exact .inl (by simp)
    simp only [beq_true, beq_false, Bool.not_true, Bool.not_false, Bool.not_eq_true', Bool.not_eq_false', decide_eq_true_eq, decide_eq_false_iff_not] at h7
    refine GOps.no rfl ?_ rfl rfl ?_
    · exact beq_eq_false_iff_ne.2 (by rw [decide_eq_false (by assumption)]; decide)
    refine GOps.no rfl ?_ rfl rfl ?_
    · exact beq_eq_false_iff_ne.2 (by rw [decide_eq_false (by assumption)]; decide)
    refine GOps.no rfl ?_ rfl rfl ?_
    · exact beq_eq_false_iff_ne.2 (by rw [decide_eq_false (by assumption)]; decide)
    refine GOps.no rfl ?_ rfl rfl ?_
    · exact beq_eq_false_iff_ne.2 (by rw [decide_eq_false (by assumption)]; decide)
    refine GOps.no rfl ?_ rfl rfl ?_
    · exact beq_eq_false_iff_ne.2 (by rw [decide_eq_false (by assumption)]; decide)
    refine GOps.no rfl ?_ rfl rfl ?_
    · exact beq_eq_false_iff_ne.2 (by rw [decide_eq_false (by assumption)]; decide)
    refine GOps.no rfl ?_ rfl rfl ?_
    · exact beq_eq_false_iff_ne.2 (by rw [decide_eq_false (by assumption)]; decide)
    refine GOps.r rfl rfl rfl rfl (grd_pick_f rfl rfl ?_ rfl) ?_
    · exact decide_eq_false (by assumption)
    refine GOps.nil ?_
    refine GWP.cond_f rfl ?_ ?_
    · with_reducible rfl
    refine GWP.skip ?_
    refine GWP.seq ?_
    refine GWP.seq ?_
    refine GWP.region ?_
    refine GOps.r rfl rfl rfl rfl (grd_move rfl rfl) ?_
    refine GOps.r rfl rfl rfl rfl (grd_nil rfl rfl) ?_
    refine GOps.r rfl rfl rfl rfl (grd_fieldAddr tab_is rfl rfl rfl rfl rfl) ?_
    focus
      refine GOps.r rfl rfl rfl rfl (grd_load1 (b := ?_) (v := ?_) tab_is rfl rfl rfl rfl ?_ ?_) ?_
      rotate_left 2
      · assumption
      · rfl
    refine GOps.r rfl rfl rfl rfl (grd_neq rfl rfl rfl) ?_
    refine GOps.nil ?_
    refine GWP.cond_t rfl ?_ ?_
    · exact decide_eq_true (by assumption)
    refine GWP.seq ?_
    refine GWP.region ?_
    refine GOps.r rfl rfl rfl rfl (grd_assign rfl rfl) ?_
    refine GOps.nil ?_
    refine GWP.ret ?_
    refine ⟨_, .one rfl, ?_⟩
    refine ⟨?_, ?_⟩
    · exact ⟨none, 0, 0, rfl, by rw [if_pos (by omega)]; exact .none⟩
    refine ⟨?_, ?_⟩
    · exact ⟨_, _, by rw [if_pos (by omega)]; assumption⟩
    refine ⟨?_, ?_⟩
    · assumption
    · assumption
    simp only [beq_true, beq_false, Bool.not_true, Bool.not_false, Bool.not_eq_true', Bool.not_eq_false', decide_eq_true_eq, decide_eq_false_iff_not] at h1
    refine GWP.skip ?_
    refine GWP.seq ?_
    refine GWP.region ?_
    refine GOps.r rfl rfl rfl rfl (grd_move rfl rfl) ?_
    refine GOps.r rfl rfl rfl rfl (grd_move rfl rfl) ?_
    refine GOps.r rfl rfl rfl rfl (grd_conv_in tab_is rfl rfl rfl rfl rfl ?_) ?_
    · refine wrap_u64_in ?_; omega
    focus
      refine GOps.w rfl rfl rfl rfl (gop_call rfl Try.call27 rfl ?_ (hcon _ _ ?_ ?_ ?_ ?_)) ?_
      · simp [Ctx.may]; done
      rotate_left 2
      · omega
      · assumption
    rintro _ _ ⟨rfl, ⟨ph10, ch11, rh12⟩, kh13, xh14⟩
    have xh14l := HExt.len xh14; try simp at xh14l
    have rh12g := RG.hg rh12; unfold rdBlk at rh12g
    have rh12b := RG.hb rh12
    have rh12n := RG.hl rh12
    refine GOps.r rfl rfl rfl rfl (grd_conv_in tab_is rfl rfl rfl rfl rfl ?_) ?_
    · refine wrap_i64_in ?_; omega
    refine GOps.r rfl rfl rfl rfl (grd_assign rfl rfl) ?_
    refine GOps.nil ?_
    refine GWP.seq ?_
    refine GWP.seq ?_
    refine GWP.region ?_
    refine GOps.r rfl rfl rfl rfl (grd_move rfl rfl) ?_
    refine GOps.r rfl rfl rfl rfl (grd_nil rfl rfl) ?_
    refine GOps.r rfl rfl rfl rfl (grd_fieldAddr tab_is rfl rfl rfl rfl rfl) ?_
    focus
      refine GOps.r rfl rfl rfl rfl (grd_load1 (b := ?_) (v := ?_) tab_is rfl rfl rfl rfl ?_ ?_) ?_
      rotate_left 2
      · assumption
      · rfl
    refine GOps.r rfl rfl rfl rfl (grd_eql rfl rfl rfl) ?_
    refine GOps.r rfl rfl rfl rfl (grd_move rfl rfl) ?_
    refine GOps.split rfl rfl (fun h15 => ?_) (fun h15 => ?_)
    simp only [beq_true, beq_false, Bool.not_true, Bool.not_false, Bool.not_eq_true', Bool.not_eq_false', decide_eq_true_eq, decide_eq_false_iff_not] at h15
    refine GOps.take rfl rfl ?_ ?_
    · exact beq_iff_eq.2 (decide_eq_true (by assumption))
    refine GOps.r rfl rfl rfl rfl (grd_move rfl rfl) ?_
    refine GOps.take rfl rfl ?_ ?_
    · exact beq_iff_eq.2 (decide_eq_true (by assumption))
    refine GOps.r rfl rfl rfl rfl (grd_move rfl rfl) ?_
    refine GOps.take rfl rfl ?_ ?_
    · exact beq_iff_eq.2 (decide_eq_true (by assumption))
    refine GOps.r rfl rfl rfl rfl (grd_nil rfl rfl) ?_
    refine GOps.take rfl rfl ?_ ?_
    · exact beq_iff_eq.2 (decide_eq_true (by assumption))
    refine GOps.r rfl rfl rfl rfl (grd_fieldAddr tab_is rfl rfl rfl rfl rfl) ?_
    refine GOps.take rfl rfl ?_ ?_
    · exact beq_iff_eq.2 (decide_eq_true (by assumption))
    focus
      refine GOps.r rfl rfl rfl rfl (grd_load1 (b := ?_) (v := ?_) tab_is rfl rfl rfl rfl ?_ ?_) ?_
      rotate_left 2
      · assumption
      · rfl
    refine GOps.take rfl rfl ?_ ?_
    · exact beq_iff_eq.2 (decide_eq_true (by assumption))
    refine GOps.r rfl rfl rfl rfl (grd_len tab_is rfl rfl rfl rfl rfl) ?_
    refine GOps.take rfl rfl ?_ ?_
    · exact beq_iff_eq.2 (decide_eq_true (by assumption))
    refine GOps.r rfl rfl rfl rfl (grd_gtr rfl rfl rfl) ?_
    refine GOps.r rfl rfl rfl rfl (grd_pick_t rfl rfl ?_ rfl) ?_
    · exact decide_eq_true (by assumption)
    refine GOps.nil ?_
    refine GWP.cond rfl (fun h16 => ?_) (fun h16 => ?_)
    simp only [beq_true, beq_false, Bool.not_true, Bool.not_false, Bool.not_eq_true', Bool.not_eq_false', decide_eq_true_eq, decide_eq_false_iff_not] at h16
    refine GWP.region ?_
    refine GOps.r rfl rfl rfl rfl (grd_move rfl rfl) ?_
    refine GOps.r rfl rfl rfl rfl (grd_nil rfl rfl) ?_
    refine GOps.r rfl rfl rfl rfl (grd_fieldAddr tab_is rfl rfl rfl rfl rfl) ?_
    focus
      refine GOps.s rfl rfl rfl (gop_store1 (b := ?_) tab_is rfl rfl rfl rfl rfl rfl ?_ ?_ ?_ ?_) ?_
      rotate_left 1
      · assumption
      · rfl
      · exact Nat.le_of_ble_eq_true rfl
      · exact .inl (by simp)
    refine GOps.nil ?_
    refine GWP.seq ?_
    refine GWP.seq ?_
    refine GWP.region ?_
    refine GOps.r rfl rfl rfl rfl (grd_move rfl rfl) ?_
    refine GOps.r rfl rfl rfl rfl (grd_nil rfl rfl) ?_
    refine GOps.r rfl rfl rfl rfl (grd_fieldAddr tab_is rfl rfl rfl rfl rfl) ?_
    focus
      refine GOps.r rfl rfl rfl rfl (grd_load1 (b := ?_) (v := ?_) tab_is rfl rfl rfl rfl ?_ ?_) ?_
      rotate_left 2
      refine Hp.at_put_eq ?_
      · omega
      · rfl
    refine GOps.r rfl rfl rfl rfl (grd_neq rfl rfl rfl) ?_
    refine GOps.nil ?_
    refine GWP.cond_t rfl ?_ ?_
    · exact decide_eq_true (by omega)
    refine GWP.seq ?_
    refine GWP.region ?_
    refine GOps.r rfl rfl rfl rfl (grd_assign rfl rfl) ?_
    refine GOps.nil ?_
    refine GWP.ret ?_
    refine ⟨_, .one rfl, ?_⟩
    refine ⟨?_, ?_⟩
    · exact ⟨none, 0, 0, rfl, by rw [if_neg (by omega), if_pos (by omega)]; exact .none⟩
    refine ⟨?_, ?_⟩
    · exact ⟨_, _, by rw [if_neg (by omega), if_pos (by omega)]; exact rg_put (s' := ⟨s2.l, 2⟩) ‹RG _ _ _ _ _ s2› (by assumption) rfl (by assumption) rfl⟩
    refine ⟨?_, ?_⟩
    · exact BSk.trans (by assumption) (rg_bsk ‹RG _ _ _ _ _ s2› _ _)
    refine HExt.put ?_ ?_
    · assumption
    · exact .inl (by simp)
    simp only [beq_true, beq_false, Bool.not_true, Bool.not_false, Bool.not_eq_true', Bool.not_eq_false', decide_eq_true_eq, decide_eq_false_iff_not] at h16
    refine GWP.skip ?_
    refine GWP.seq ?_
    refine GWP.seq ?_
    refine GWP.region ?_
    refine GOps.r rfl rfl rfl rfl (grd_move rfl rfl) ?_
    refine GOps.r rfl rfl rfl rfl (grd_nil rfl rfl) ?_
    refine GOps.r rfl rfl rfl rfl (grd_fieldAddr tab_is rfl rfl rfl rfl rfl) ?_
    focus
      refine GOps.r rfl rfl rfl rfl (grd_load1 (b := ?_) (v := ?_) tab_is rfl rfl rfl rfl ?_ ?_) ?_
      rotate_left 2
      · assumption
      · rfl
    refine GOps.r rfl rfl rfl rfl (grd_neq rfl rfl rfl) ?_
    refine GOps.nil ?_
    refine GWP.cond_f rfl ?_ ?_
    · exact decide_eq_false (by omega)
    refine GWP.skip ?_
    refine GWP.seq ?_
    refine GWP.region ?_
    refine GOps.r rfl rfl rfl rfl (grd_move rfl rfl) ?_
    refine GOps.r rfl rfl rfl rfl (grd_nil rfl rfl) ?_
    refine GOps.r rfl rfl rfl rfl (grd_fieldAddr tab_is rfl rfl rfl rfl rfl) ?_
    focus
      refine GOps.r rfl rfl rfl rfl (grd_load1 (b := ?_) (v := ?_) tab_is rfl rfl rfl rfl ?_ ?_) ?_
      rotate_left 2
      · assumption
      · rfl
    refine GOps.r rfl rfl rfl rfl (grd_move rfl rfl) ?_
    focus
      refine gops_bs rfl rfl rfl rfl (grd_slBS (l := ?_) (h := ?_) (m2 := ?_) (L := ?_) (M := ?_) tab_is rfl rfl rfl rfl ?_ ?_ ?_ ?_ ?_ ?_ ?_) ?_
      rotate_left 5
      · assumption
      · exact rfl
      · refine gbound_tmp rfl ?_; exact rfl
      · omega
      · omega
      · simp; rfl
      · simp only [List.drop_zero]; rfl
    intro ph17 ch17 h17
    have h17n := BS.len h17
    refine GOps.r rfl rfl rfl rfl (grd_assign rfl rfl) ?_
    refine GOps.nil ?_
    refine GWP.seq ?_
    refine GWP.region ?_
    refine GOps.r rfl rfl rfl rfl (grd_move rfl rfl) ?_
    refine GOps.r rfl rfl rfl rfl (grd_move rfl rfl) ?_
    refine GOps.r rfl rfl rfl rfl (grd_nil rfl rfl) ?_
    refine GOps.r rfl rfl rfl rfl (grd_fieldAddr tab_is rfl rfl rfl rfl rfl) ?_
    focus
      refine GOps.r rfl rfl rfl rfl (grd_load1 (b := ?_) (v := ?_) tab_is rfl rfl rfl rfl ?_ ?_) ?_
      rotate_left 2
      · assumption
      · rfl
    refine GOps.r rfl rfl rfl rfl (grd_move rfl rfl) ?_
    focus
      refine gops_bs rfl rfl rfl rfl (grd_slBS (l := ?_) (h := ?_) (m2 := ?_) (L := ?_) (M := ?_) tab_is rfl rfl rfl rfl ?_ ?_ ?_ ?_ ?_ ?_ ?_) ?_
      rotate_left 5
      · assumption
      · refine gbound_tmp rfl ?_; exact rfl
      · exact rfl
      · omega
      · omega
      · rfl
      · refine Eq.trans (List.take_of_length_le ?_) ?_; rotate_left 1; rfl; (simp; done)
    intro ph18 ch18 h18
    have h18n := BS.len h18
    refine GOps.r rfl rfl rfl rfl (grd_nil rfl rfl) ?_
    refine GOps.r rfl rfl rfl rfl (grd_fieldAddr tab_is rfl rfl rfl rfl rfl) ?_
    focus
      refine GOps.s rfl rfl rfl (gop_store1 (b := ?_) tab_is rfl rfl rfl rfl rfl rfl ?_ ?_ ?_ ?_) ?_
      rotate_left 1
      · assumption
      · rfl
      · exact Nat.le_of_ble_eq_true rfl
      · exact .inl (by simp)
    refine GOps.nil ?_
    refine GWP.seq ?_
    refine GWP.region ?_
    refine GOps.r rfl rfl rfl rfl (grd_move rfl rfl) ?_
    refine GOps.r rfl rfl rfl rfl (grd_assign rfl rfl) ?_
    refine GOps.nil ?_
    refine GWP.ret ?_
    refine ⟨_, .one rfl, ?_⟩
    refine ⟨?_, ?_⟩
    · exact ⟨_, _, _, rfl, by rw [if_neg (by omega), if_neg (by omega)]; exact rg_bsk ‹RG _ _ _ _ _ s2› _ _ _ _ (by assumption)⟩
    refine ⟨?_, ?_⟩
    · exact ⟨_, _, by rw [if_neg (by omega), if_neg (by omega)]; exact rg_put (s' := ⟨s2.l.drop n, 0⟩) ‹RG _ _ _ _ _ s2› (by assumption) (by simp) (by simp only [List.length_drop]; omega) (by simp only; omega)⟩
    refine ⟨?_, ?_⟩
    · exact BSk.trans (by assumption) (rg_bsk ‹RG _ _ _ _ _ s2› _ _)
    refine HExt.put ?_ ?_
    · assumption
    · exact .inl (by simp)
    simp only [beq_true, beq_false, Bool.not_true, Bool.not_false, Bool.not_eq_true', Bool.not_eq_false', decide_eq_true_eq, decide_eq_false_iff_not] at h15
    refine GOps.no rfl ?_ rfl rfl ?_
    · exact beq_eq_false_iff_ne.2 (by rw [decide_eq_false (by assumption)]; decide)
    refine GOps.no rfl ?_ rfl rfl ?_
    · exact beq_eq_false_iff_ne.2 (by rw [decide_eq_false (by assumption)]; decide)
    refine GOps.no rfl ?_ rfl rfl ?_
    · exact beq_eq_false_iff_ne.2 (by rw [decide_eq_false (by assumption)]; decide)
    refine GOps.no rfl ?_ rfl rfl ?_
    · exact beq_eq_false_iff_ne.2 (by rw [decide_eq_false (by assumption)]; decide)
    refine GOps.no rfl ?_ rfl rfl ?_
    · exact beq_eq_false_iff_ne.2 (by rw [decide_eq_false (by assumption)]; decide)
    refine GOps.no rfl ?_ rfl rfl ?_
    · exact beq_eq_false_iff_ne.2 (by rw [decide_eq_false (by assumption)]; decide)
    refine GOps.no rfl ?_ rfl rfl ?_
    · exact beq_eq_false_iff_ne.2 (by rw [decide_eq_false (by assumption)]; decide)
    refine GOps.r rfl rfl rfl rfl (grd_pick_f rfl rfl ?_ rfl) ?_
    · exact decide_eq_false (by assumption)
    refine GOps.nil ?_
    refine GWP.cond_f rfl ?_ ?_
    · with_reducible rfl
    refine GWP.skip ?_
    refine GWP.seq ?_
    refine GWP.seq ?_
    refine GWP.region ?_
    refine GOps.r rfl rfl rfl rfl (grd_move rfl rfl) ?_
    refine GOps.r rfl rfl rfl rfl (grd_nil rfl rfl) ?_
    refine GOps.r rfl rfl rfl rfl (grd_fieldAddr tab_is rfl rfl rfl rfl rfl) ?_
    focus
      refine GOps.r rfl rfl rfl rfl (grd_load1 (b := ?_) (v := ?_) tab_is rfl rfl rfl rfl ?_ ?_) ?_
      rotate_left 2
      · assumption
      · rfl
    refine GOps.r rfl rfl rfl rfl (grd_neq rfl rfl rfl) ?_
    refine GOps.nil ?_
    refine GWP.cond_t rfl ?_ ?_
    · exact decide_eq_true (by assumption)
    refine GWP.seq ?_
    refine GWP.region ?_
    refine GOps.r rfl rfl rfl rfl (grd_assign rfl rfl) ?_
    refine GOps.nil ?_
    refine GWP.ret ?_
    refine ⟨_, .one rfl, ?_⟩
    refine ⟨?_, ?_⟩
    · exact ⟨none, 0, 0, rfl, by rw [if_pos (by omega)]; exact .none⟩
    refine ⟨?_, ?_⟩
    · exact ⟨_, _, by rw [if_pos (by omega)]; assumption⟩
    refine ⟨?_, ?_⟩
    · assumption
    · assumption
set_option maxHeartbeats 4000000 in
set_option maxRecDepth 100000 in
set_option linter.unusedSimpArgs false in
theorem g_clone (H : Hp) (p : Option Addr) (n c : Nat) (L : List UInt8) (hb : BS H (.slice p n c) L) (hn : n ≤ 140737488355328) : GCalls Try.prog 35 [.slice p n c] [] H fun v H' => (∃ p' n' c', v = .slice p' n' c' ∧ BS H' (.slice p' n' c') L) ∧ HExt [] H H' := by
  have hl := hb.len
  rcases Nat.eq_zero_or_pos n with h0 | h0
  · subst h0
    obtain rfl : L = [] := List.eq_nil_of_length_eq_zero hl
    refine GCalls.body tab_is Try.func35 rfl Try.results35 Try.ntmps35 (by simp) ?_ ?_
    · first | (intro _ h; cases h; done) | (simp; done) | (simp; omega) | (intro i hi; simp at hi; rcases hi with rfl | rfl <;> omega) | (intro i hi; simp at hi; rcases hi with rfl | rfl | rfl <;> omega)
    focus
      refine GWP.seq ?_
      refine GWP.region ?_
      refine GOps.r rfl rfl rfl rfl (grd_assign rfl rfl) ?_
      refine GOps.nil ?_
      refine GWP.seq ?_
      refine GWP.seq ?_
      refine GWP.region ?_
      refine GOps.r rfl rfl rfl rfl (grd_move rfl rfl) ?_
      refine GOps.r rfl rfl rfl rfl (grd_sleql tab_is rfl rfl rfl rfl rfl) ?_
      refine GOps.nil ?_
      refine GWP.cond rfl (fun i1 => ?_) (fun i1 => ?_)
      simp at i1
      refine GWP.seq ?_
      refine GWP.region ?_
      refine GOps.r rfl rfl rfl rfl (grd_assign rfl rfl) ?_
      refine GOps.nil ?_
      refine GWP.ret ?_
      refine ⟨_, .one rfl, ?_⟩
      refine ⟨?_, ?_⟩
      · exact ⟨_, _, _, rfl, BS.none⟩
      · exact HExt.refl _ _
      simp at i1
      refine GWP.skip ?_
      refine GWP.seq ?_
      refine GWP.region ?_
      focus
        refine GOps.w1 rfl rfl rfl rfl (gop_lit (id := ?_) (cs := ?_) ?_ tab_is rfl rfl rfl ?_ ?_ rfl ?_ ?_) ?_
        rotate_left 2
        · rfl
        · decide
        · decide
        · simp [gfill, gsets, Value.cells]; rfl
        · rfl
      refine GOps.r rfl rfl rfl rfl (grd_move rfl rfl) ?_
      focus
        refine GOps.w1 rfl rfl rfl rfl (gop_zeroB (L := ?_) (M := ?_) tab_is rfl rfl rfl rfl ?_ ?_ (gsrc_bs rfl rfl rfl ?_) ?_ ?_ ?_) ?_
        rotate_left 2
        refine bs_emptyE (b := ?_) ?_ ?_ ?_ ?_
        rotate_left 1
        · exact Hp.at_push_eq
        · rfl
        · decide
        · rfl
        · omega
        refine BS.ext (by assumption) ?_
        refine HExt.push ?_
        · exact HExt.refl _ _
        · exact BS.len (by assumption)
        · decide
        · decide
      refine GOps.r rfl rfl rfl rfl (grd_assign rfl rfl) ?_
      refine GOps.nil ?_
      refine GWP.ret ?_
      refine ⟨_, .one rfl, ?_⟩
      refine ⟨?_, ?_⟩
      rotate_left 1
      refine HExt.push ?_
      · exact HExt.refl _ _
    exact ⟨_, _, _, rfl, bs_empty (b := ⟨_, 1, _, _⟩) Hp.at_push_eq rfl (Nat.zero_le _)⟩
  ·
    refine GCalls.body tab_is Try.func35 rfl Try.results35 Try.ntmps35 (by simp) ?_ ?_
    · first | (intro _ h; cases h; done) | (simp; done) | (simp; omega) | (intro i hi; simp at hi; rcases hi with rfl | rfl <;> omega) | (intro i hi; simp at hi; rcases hi with rfl | rfl | rfl <;> omega)
    focus
      refine GWP.seq ?_
      refine GWP.region ?_
      refine GOps.r rfl rfl rfl rfl (grd_assign rfl rfl) ?_
      refine GOps.nil ?_
      refine GWP.seq ?_
      refine GWP.seq ?_
      refine GWP.region ?_
      refine GOps.r rfl rfl rfl rfl (grd_move rfl rfl) ?_
      refine GOps.r rfl rfl rfl rfl (grd_sleql tab_is rfl rfl rfl rfl rfl) ?_
      refine GOps.nil ?_
      refine GWP.cond rfl (fun j1 => ?_) (fun j1 => ?_)
      simp at j1
      refine GWP.seq ?_
      refine GWP.region ?_
      refine GOps.r rfl rfl rfl rfl (grd_assign rfl rfl) ?_
      refine GOps.nil ?_
      refine GWP.ret ?_
      refine ⟨_, .one rfl, ?_⟩
      refine ⟨?_, ?_⟩
      rotate_left 1
      · exact HExt.refl _ _
      simp at j1
      refine GWP.skip ?_
      refine GWP.seq ?_
      refine GWP.region ?_
      focus
        refine GOps.w1 rfl rfl rfl rfl (gop_lit (id := ?_) (cs := ?_) ?_ tab_is rfl rfl rfl ?_ ?_ rfl ?_ ?_) ?_
        rotate_left 2
        · rfl
        · decide
        · decide
        · simp [gfill, gsets, Value.cells]; rfl
        · rfl
      refine GOps.r rfl rfl rfl rfl (grd_move rfl rfl) ?_
      focus
        refine GOps.w1 rfl rfl rfl rfl (gop_fullB (id := ?_) (L := ?_) (M := ?_) (K := ?_) ?_ tab_is rfl rfl rfl rfl ?_ ?_ ?_ (gsrc_bs rfl rfl rfl ?_) ?_ ?_ ?_ ?_) ?_
        rotate_left 4
        · simp; rfl
        refine bs_emptyE (b := ?_) ?_ ?_ ?_ ?_
        rotate_left 1
        · exact Hp.at_push_eq
        · rfl
        · decide
        · rfl
        · decide
        · omega
        refine BS.ext (by assumption) ?_
        refine HExt.push ?_
        · exact HExt.refl _ _
        · exact BS.len (by assumption)
        · simp only [List.nil_append]; rfl
        · omega
        · omega
      refine GOps.r rfl rfl rfl rfl (grd_assign rfl rfl) ?_
      refine GOps.nil ?_
      refine GWP.ret ?_
      refine ⟨_, .one rfl, ?_⟩
      refine ⟨?_, ?_⟩
      rotate_left 1
      refine HExt.push ?_
      refine HExt.push ?_
      · exact HExt.refl _ _
    · subst j1
      cases hb
      omega
    · exact ⟨_, _, _, rfl, bs_push (by simp) (by omega)⟩
set_option maxHeartbeats 4000000 in
set_option maxRecDepth 100000 in
set_option linter.unusedSimpArgs false in
theorem g_vopen (H : Hp) (p : Option Addr) (n c : Nat) (L : List UInt8) (hb : BS H (.slice p n c) L) (hn : n ≤ 140737488355328) : GCalls Try.prog 17 [.slice p n c] [] H fun v H' => (∃ g p' c', v = .pointer (some ⟨g, 0, none⟩) ∧ H.length ≤ g ∧ RG 81 H' g p' c' ⟨L, 0⟩) ∧ HExt [] H H' := by
  have hl := hb.len
  refine GCalls.body tab_is Try.func17 rfl Try.results17 Try.ntmps17 (by simp) ?_ ?_
  · first | (intro _ h; cases h; done) | (simp; done) | (simp; omega) | (intro i hi; simp at hi; rcases hi with rfl | rfl <;> omega) | (intro i hi; simp at hi; rcases hi with rfl | rfl | rfl <;> omega)
  focus
    refine GWP.seq ?_
    refine GWP.region ?_
    refine GOps.r rfl rfl rfl rfl (grd_assign rfl rfl) ?_
    refine GOps.nil ?_
    refine GWP.seq ?_
    refine GWP.region ?_
    refine GOps.r rfl rfl rfl rfl (grd_move rfl rfl) ?_
    focus
      refine GOps.w rfl rfl rfl rfl (gop_call rfl Try.call35 rfl ?_ (g_clone _ _ _ _ ?_ ?_ ?_)) ?_
      · intro _ h; cases h; done
      rotate_left 1
      · assumption
      · omega
    rintro _ _ ⟨⟨pk1, nk2, ck3, rfl, bk4⟩, xk5⟩
    have xk5l := HExt.len xk5; try simp at xk5l
    focus
      refine GOps.r rfl rfl rfl rfl (grd_build (cs := ?_) tab_is rfl rfl rfl ?_ rfl ?_) ?_
      rotate_left 1
      · decide
      · simp [gfill, gsets, Value.cells]; rfl
    focus
      refine GOps.w1 rfl rfl rfl rfl (gop_box' (id := ?_) ?_ rfl rfl rfl) ?_
      rotate_left 1
      · rfl
    refine GOps.r rfl rfl rfl rfl (grd_assign rfl rfl) ?_
    refine GOps.nil ?_
    refine GWP.ret ?_
    refine ⟨_, .one rfl, ?_⟩
    refine ⟨?_, ?_⟩
    rotate_left 1
    refine HExt.push ?_
    · assumption
  have e := bk4.len
  subst e
  exact ⟨_, pk1, ck3, rfl, xk5l, ⟨Hp.at_push_eq, bk4.ext (HExt.refl _ _).push, by simp only; omega⟩⟩
end Go.Proofs.Ytjlimdiimdihfaa
