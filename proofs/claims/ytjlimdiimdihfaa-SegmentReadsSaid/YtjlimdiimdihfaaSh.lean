/- Blocks of a segment: read. -/
import Derived.Test.YtjlimdiimdihfaaSg
namespace Go.Proofs.Ytjlimdiimdihfaa
open Go.RowKit

/-- What a tape's block is. -/
inductive SegO where
  | bad (e : Nat)
  | head (a b c d e : Nat)
  | fin (a b c d : Nat) (last : Bool)
  | data (M : List UInt8)
/-- The greatest number. -/
def segTop : Nat := 1073741824
def segN (k : UInt8) (r1 r2 r3 r4 r5 : Nat × RdS) : SegO :=
  if r5.2.fin ≠ 0 then .bad 3 else if k.toNat = 72 then .head r1.1 r2.1 r3.1 r4.1 r5.1 else if k.toNat = 84 ∧ r5.1 ≤ 1 then .fin r1.1 r2.1 r3.1 r4.1 (decide (r5.1 = 1)) else .bad 3
def segO (L : List UInt8) : SegO := match openL L with
  | none => .bad 4
  | some [] => .bad 3
  | some (k :: M) => if k.toNat = 68 ∧ 1 ≤ M.length ∧ M.length ≤ 160 then .data M else
    let r1 := RdS.number ⟨M, 0⟩ segTop
    let r2 := r1.2.number segTop
    let r3 := r2.2.number segTop
    let r4 := r3.2.number segTop
    let r5 := r4.2.number segTop
    segN k r1 r2 r3 r4 r5
def SegV (H : Hp) (v : Value) : SegO → Prop
  | .bad e => v = .tuple #[.nilIface, .int .i64 (e : Int)]
  | .head a b c d e => v = .tuple #[.iface 63 (.agg #[.int .i64 (a : Int), .int .i64 (b : Int), .int .i64 (c : Int), .int .i64 (d : Int), .int .i64 (e : Int)]), .int .i64 0]
  | .fin a b c d l => v = .tuple #[.iface 65 (.agg #[.int .i64 (a : Int), .int .i64 (b : Int), .int .i64 (c : Int), .int .i64 (d : Int), .bool l]), .int .i64 0]
  | .data M => ∃ p n c, v = .tuple #[.iface 68 (.slice p n c), .int .i64 0] ∧ BS H (.slice p n c) M
set_option maxHeartbeats 4000000 in
set_option maxRecDepth 100000 in
set_option linter.unusedSimpArgs false in
theorem g_num (s : RdS) (r : Nat × RdS) (h : s.number segTop = r) (H : Hp) (g : Nat) (p : Option Addr) (c : Nat) (hr : RG 81 H g p c s) : GCalls Try.prog 24 [.pointer (some ⟨g, 0, none⟩), .int .u64 1073741824] [g] H fun v H' => v = .int .u64 (r.1 : Int) ∧ (∃ p' c', RG 81 H' g p' c' r.2) ∧ BSk H H' ∧ HExt [g] H H' := by
  subst h
  exact g_number H g p c s 1073741824 (by decide) hr
theorem number_top {s : RdS} {r : Nat × RdS} (h : s.number segTop = r) : r.1 ≤ 1073741824 := by
  subst h
  exact number_le' s segTop
set_option maxHeartbeats 4000000 in
set_option maxRecDepth 100000 in
set_option linter.unusedSimpArgs false in
theorem g_sread (H : Hp) (p : Option Addr) (n c : Nat) (L : List UInt8) (hb : BS H (.slice p n c) L) (hn : n ≤ 35184372088832) : GCalls Try.prog 9 [.slice p n c] [] H fun v H' => SegV H' v (segO L) ∧ HExt [] H H' := by
  have hcon := fun H p n c hb hn => g_copen H p n c L hb hn
  have hop : ∀ b, openL L = some b → b.length ≤ 35184372088832 := by
    intro b hb2
    unfold openL at hb2
    split at hb2
    · injection hb2 with hb2
      subst hb2
      have := hb.len
      rw [List.length_take]
      omega
    · cases hb2
  unfold segO
  cases ho : openL L with
  | none =>
    rw [ho] at hcon
    simp only [Option.getD_some, Option.getD_none, Option.isSome_some, Option.isSome_none] at hcon
    refine GCalls.body tab_is Try.func9 rfl Try.results9 Try.ntmps9 (by simp) ?_ ?_
    · first | (intro _ h; cases h; done) | (simp; done) | (simp; omega) | (intro i hi; simp at hi; rcases hi with rfl | rfl <;> omega) | (intro i hi; simp at hi; rcases hi with rfl | rfl | rfl <;> omega)
    focus
      refine GWP.seq ?_
      refine GWP.region ?_
      refine GOps.r rfl rfl rfl rfl (grd_assign rfl rfl) ?_
      refine GOps.r rfl rfl rfl rfl (grd_assign rfl rfl) ?_
      refine GOps.nil ?_
      refine GWP.seq ?_
      refine GWP.region ?_
      refine GOps.r rfl rfl rfl rfl (grd_move rfl rfl) ?_
      refine GOps.w rfl rfl rfl rfl (gop_call rfl Try.call23 rfl ?_ (hcon _ _ _ _ ?_ ?_)) ?_
      · intro _ h; cases h; done
      · assumption
      · omega
      rintro _ _ ⟨⟨pa1, na2, ca3, rfl, ba4⟩, xa5⟩
      have xa5l := HExt.len xa5; try simp at xa5l
      refine GOps.r rfl rfl rfl rfl (grd_move rfl rfl) ?_
      focus
        refine GOps.r rfl rfl rfl rfl (grd_extract (v := ?_) rfl rfl ?_) ?_
        rotate_left 1
        · simp only [List.getElem?_toArray, List.getElem?_cons_zero, List.getElem?_cons_succ]; rfl
      focus
        refine GOps.r rfl rfl rfl rfl (grd_extract (v := ?_) rfl rfl ?_) ?_
        rotate_left 1
        · simp only [List.getElem?_toArray, List.getElem?_cons_zero, List.getElem?_cons_succ]; rfl
      refine GOps.r rfl rfl rfl rfl (grd_assign rfl rfl) ?_
      refine GOps.r rfl rfl rfl rfl (grd_assign rfl rfl) ?_
      refine GOps.nil ?_
      refine GWP.seq ?_
      refine GWP.block ?_
      refine GWP.seq ?_
      refine GWP.region ?_
      refine GOps.r rfl rfl rfl rfl (grd_move rfl rfl) ?_
      refine GOps.r rfl rfl rfl rfl (grd_not rfl rfl) ?_
      refine GOps.r rfl rfl rfl rfl (grd_assign rfl rfl) ?_
      refine GOps.nil ?_
      refine GWP.cond_t rfl ?_ ?_
      · simp; done
      refine GWP.seq ?_
      refine GWP.region ?_
      refine GOps.r rfl rfl rfl rfl (grd_assign rfl rfl) ?_
      refine GOps.r rfl rfl rfl rfl (grd_assign rfl rfl) ?_
      refine GOps.nil ?_
      refine GWP.ret ?_
      refine ⟨_, .two (.one rfl) (.one rfl), ?_⟩
      refine ⟨?_, ?_⟩
      · rfl
      · assumption
  | some b =>
    rw [ho] at hcon
    simp only [Option.getD_some, Option.getD_none, Option.isSome_some, Option.isSome_none] at hcon
    have hbl := hop b ho
    clear hop ho
    cases b with
    | nil =>
      refine GCalls.body tab_is Try.func9 rfl Try.results9 Try.ntmps9 (by simp) ?_ ?_
      · first | (intro _ h; cases h; done) | (simp; done) | (simp; omega) | (intro i hi; simp at hi; rcases hi with rfl | rfl <;> omega) | (intro i hi; simp at hi; rcases hi with rfl | rfl | rfl <;> omega)
      focus
        refine GWP.seq ?_
        refine GWP.region ?_
        refine GOps.r rfl rfl rfl rfl (grd_assign rfl rfl) ?_
        refine GOps.r rfl rfl rfl rfl (grd_assign rfl rfl) ?_
        refine GOps.nil ?_
        refine GWP.seq ?_
        refine GWP.region ?_
        refine GOps.r rfl rfl rfl rfl (grd_move rfl rfl) ?_
        refine GOps.w rfl rfl rfl rfl (gop_call rfl Try.call23 rfl ?_ (hcon _ _ _ _ ?_ ?_)) ?_
        · intro _ h; cases h; done
        · assumption
        · omega
        rintro _ _ ⟨⟨pb1, nb2, cb3, rfl, bb4⟩, xb5⟩
        have xb5l := HExt.len xb5; try simp at xb5l
        have bb4n := BS.len bb4; simp at bb4n; subst bb4n
        refine GOps.r rfl rfl rfl rfl (grd_move rfl rfl) ?_
        focus
          refine GOps.r rfl rfl rfl rfl (grd_extract (v := ?_) rfl rfl ?_) ?_
          rotate_left 1
          · simp only [List.getElem?_toArray, List.getElem?_cons_zero, List.getElem?_cons_succ]; rfl
        focus
          refine GOps.r rfl rfl rfl rfl (grd_extract (v := ?_) rfl rfl ?_) ?_
          rotate_left 1
          · simp only [List.getElem?_toArray, List.getElem?_cons_zero, List.getElem?_cons_succ]; rfl
        refine GOps.r rfl rfl rfl rfl (grd_assign rfl rfl) ?_
        refine GOps.r rfl rfl rfl rfl (grd_assign rfl rfl) ?_
        refine GOps.nil ?_
        refine GWP.seq ?_
        refine GWP.block ?_
        refine GWP.seq ?_
        refine GWP.region ?_
        refine GOps.r rfl rfl rfl rfl (grd_move rfl rfl) ?_
        refine GOps.r rfl rfl rfl rfl (grd_not rfl rfl) ?_
        refine GOps.r rfl rfl rfl rfl (grd_assign rfl rfl) ?_
        refine GOps.nil ?_
        refine GWP.cond_f rfl ?_ ?_
        · simp; done
        refine GWP.seq ?_
        refine GWP.region ?_
        refine GOps.r rfl rfl rfl rfl (grd_move rfl rfl) ?_
        refine GOps.r rfl rfl rfl rfl (grd_len tab_is rfl rfl rfl rfl rfl) ?_
        refine GOps.r rfl rfl rfl rfl (grd_eql rfl rfl rfl) ?_
        refine GOps.r rfl rfl rfl rfl (grd_assign rfl rfl) ?_
        refine GOps.nil ?_
        refine GWP.cond_t rfl ?_ ?_
        · exact decide_eq_true (by omega)
        refine GWP.seq ?_
        refine GWP.region ?_
        refine GOps.r rfl rfl rfl rfl (grd_assign rfl rfl) ?_
        refine GOps.r rfl rfl rfl rfl (grd_assign rfl rfl) ?_
        refine GOps.nil ?_
        refine GWP.ret ?_
        refine ⟨_, .two (.one rfl) (.one rfl), ?_⟩
        refine ⟨?_, ?_⟩
        · rfl
        · assumption
      | cons k M =>
      simp only
      generalize h1 : RdS.number ⟨M, 0⟩ segTop = r1
      generalize h2 : r1.2.number segTop = r2
      generalize h3 : r2.2.number segTop = r3
      generalize h4 : r3.2.number segTop = r4
      generalize h5 : r4.2.number segTop = r5
      simp only [List.length_cons] at hbl
      have t1 := number_top h1
      have t2 := number_top h2
      have t3 := number_top h3
      have t4 := number_top h4
      have t5 := number_top h5
      refine GCalls.body tab_is Try.func9 rfl Try.results9 Try.ntmps9 (by simp) ?_ ?_
      · first | (intro _ h; cases h; done) | (simp; done) | (simp; omega) | (intro i hi; simp at hi; rcases hi with rfl | rfl <;> omega) | (intro i hi; simp at hi; rcases hi with rfl | rfl | rfl <;> omega)
      focus
        refine GWP.seq ?_
        refine GWP.region ?_
        refine GOps.r rfl rfl rfl rfl (grd_assign rfl rfl) ?_
        refine GOps.r rfl rfl rfl rfl (grd_assign rfl rfl) ?_
        refine GOps.nil ?_
        refine GWP.seq ?_
        refine GWP.region ?_
        refine GOps.r rfl rfl rfl rfl (grd_move rfl rfl) ?_
        refine GOps.w rfl rfl rfl rfl (gop_call rfl Try.call23 rfl ?_ (hcon _ _ _ _ ?_ ?_)) ?_
        · intro _ h; cases h; done
        · assumption
        · omega
        rintro _ _ ⟨⟨pc1, nc2, cc3, rfl, bc4⟩, xc5⟩
        have xc5l := HExt.len xc5; try simp at xc5l
        have bc4n := BS.len bc4; simp at bc4n; subst bc4n
        refine GOps.r rfl rfl rfl rfl (grd_move rfl rfl) ?_
        focus
          refine GOps.r rfl rfl rfl rfl (grd_extract (v := ?_) rfl rfl ?_) ?_
          rotate_left 1
          · simp only [List.getElem?_toArray, List.getElem?_cons_zero, List.getElem?_cons_succ]; rfl
        focus
          refine GOps.r rfl rfl rfl rfl (grd_extract (v := ?_) rfl rfl ?_) ?_
          rotate_left 1
          · simp only [List.getElem?_toArray, List.getElem?_cons_zero, List.getElem?_cons_succ]; rfl
        refine GOps.r rfl rfl rfl rfl (grd_assign rfl rfl) ?_
        refine GOps.r rfl rfl rfl rfl (grd_assign rfl rfl) ?_
        refine GOps.nil ?_
        refine GWP.seq ?_
        refine GWP.block ?_
        refine GWP.seq ?_
        refine GWP.region ?_
        refine GOps.r rfl rfl rfl rfl (grd_move rfl rfl) ?_
        refine GOps.r rfl rfl rfl rfl (grd_not rfl rfl) ?_
        refine GOps.r rfl rfl rfl rfl (grd_assign rfl rfl) ?_
        refine GOps.nil ?_
        refine GWP.cond_f rfl ?_ ?_
        · simp; done
        refine GWP.seq ?_
        refine GWP.region ?_
        refine GOps.r rfl rfl rfl rfl (grd_move rfl rfl) ?_
        refine GOps.r rfl rfl rfl rfl (grd_len tab_is rfl rfl rfl rfl rfl) ?_
        refine GOps.r rfl rfl rfl rfl (grd_eql rfl rfl rfl) ?_
        refine GOps.r rfl rfl rfl rfl (grd_assign rfl rfl) ?_
        refine GOps.nil ?_
        refine GWP.cond_f rfl ?_ ?_
        · exact decide_eq_false (by omega)
        refine GWP.seq ?_
        refine GWP.region ?_
        refine GOps.r rfl rfl rfl rfl (grd_move rfl rfl) ?_
        focus
          refine GOps.r rfl rfl rfl rfl (grd_indexBS (q := ?_) (L := ?_) tab_is rfl rfl rfl rfl rfl ?_ ?_ ?_) ?_
          rotate_left 2
          · assumption
          · rfl
          · exact Nat.le_of_ble_eq_true rfl
        focus
          refine GOps.re rfl rfl rfl rfl (grd_loadBSK (n := ?_) (c := ?_) (L := ?_) (u := ?_) tab_is rfl rfl rfl rfl ?_ ?_ ?_) ?_
          rotate_left 4
          · assumption
          · exact Nat.le_of_ble_eq_true rfl
          · simp only [List.getD_cons_zero]; rfl
        refine GOps.r rfl rfl rfl rfl (grd_eql rfl rfl rfl) ?_
        refine GOps.r rfl rfl rfl rfl (grd_move rfl rfl) ?_
        refine GOps.split rfl rfl (fun c6 => ?_) (fun c6 => ?_)
        simp only [beq_true, beq_false, Bool.not_true, Bool.not_false, Bool.not_eq_true', Bool.not_eq_false', decide_eq_true_eq, decide_eq_false_iff_not] at c6
        refine GOps.take rfl rfl ?_ ?_
        · exact beq_iff_eq.2 (decide_eq_true (by assumption))
        refine GOps.r rfl rfl rfl rfl (grd_move rfl rfl) ?_
        refine GOps.take rfl rfl ?_ ?_
        · exact beq_iff_eq.2 (decide_eq_true (by assumption))
        refine GOps.r rfl rfl rfl rfl (grd_len tab_is rfl rfl rfl rfl rfl) ?_
        refine GOps.take rfl rfl ?_ ?_
        · exact beq_iff_eq.2 (decide_eq_true (by assumption))
        refine GOps.r rfl rfl rfl rfl (grd_gtr rfl rfl rfl) ?_
        refine GOps.r rfl rfl rfl rfl (grd_pick_t rfl rfl ?_ rfl) ?_
        · exact decide_eq_true (by assumption)
        refine GOps.r rfl rfl rfl rfl (grd_move rfl rfl) ?_
        refine GOps.split rfl rfl (fun c7 => ?_) (fun c7 => ?_)
        simp only [beq_true, beq_false, Bool.not_true, Bool.not_false, Bool.not_eq_true', Bool.not_eq_false', decide_eq_true_eq, decide_eq_false_iff_not] at c7
        refine GOps.take rfl rfl ?_ ?_
        · exact beq_iff_eq.2 (decide_eq_true (by assumption))
        refine GOps.r rfl rfl rfl rfl (grd_move rfl rfl) ?_
        refine GOps.take rfl rfl ?_ ?_
        · exact beq_iff_eq.2 (decide_eq_true (by assumption))
        refine GOps.r rfl rfl rfl rfl (grd_len tab_is rfl rfl rfl rfl rfl) ?_
        refine GOps.take rfl rfl ?_ ?_
        · exact beq_iff_eq.2 (decide_eq_true (by assumption))
        refine GOps.r rfl rfl rfl rfl (grd_leq rfl rfl rfl) ?_
        refine GOps.r rfl rfl rfl rfl (grd_pick_t rfl rfl ?_ rfl) ?_
        · exact decide_eq_true (by assumption)
        refine GOps.r rfl rfl rfl rfl (grd_assign rfl rfl) ?_
        refine GOps.nil ?_
        refine GWP.cond rfl (fun c8 => ?_) (fun c8 => ?_)
        simp only [beq_true, beq_false, Bool.not_true, Bool.not_false, Bool.not_eq_true', Bool.not_eq_false', decide_eq_true_eq, decide_eq_false_iff_not] at c8
        refine GWP.seq ?_
        refine GWP.region ?_
        refine GOps.r rfl rfl rfl rfl (grd_move rfl rfl) ?_
        focus
          refine gops_bs rfl rfl rfl rfl (grd_slBS (l := ?_) (h := ?_) (m2 := ?_) (L := ?_) (M := ?_) tab_is rfl rfl rfl rfl ?_ ?_ ?_ ?_ ?_ ?_ ?_) ?_
          rotate_left 5
          · assumption
          · refine gbound_const ?_; exact rfl
          · exact rfl
          · exact Nat.le_of_ble_eq_true rfl
          · omega
          · simp; rfl
          · refine Eq.trans (List.take_of_length_le ?_) ?_; rotate_left 1; rfl; (simp; done)
        intro pc9 cc9 c9
        have c9n := BS.len c9
        refine GOps.r rfl rfl rfl rfl (grd_mkI tab_is rfl rfl rfl rfl) ?_
        refine GOps.r rfl rfl rfl rfl (grd_assign rfl rfl) ?_
        refine GOps.r rfl rfl rfl rfl (grd_assign rfl rfl) ?_
        refine GOps.nil ?_
        refine GWP.ret ?_
        refine ⟨_, .two (.one rfl) (.one rfl), ?_⟩
        refine ⟨?_, ?_⟩
        · rw [if_pos ⟨by omega, by omega, by omega⟩]; exact ⟨_, _, _, rfl, by assumption⟩
        · assumption
        simp only [beq_true, beq_false, Bool.not_true, Bool.not_false, Bool.not_eq_true', Bool.not_eq_false', decide_eq_true_eq, decide_eq_false_iff_not] at c8
        refine GWP.skip ?_
        refine GWP.seq ?_
        refine GWP.region ?_
        focus
          refine GOps.w1 rfl rfl rfl rfl (gop_alloc' (id := ?_) ?_ tab_is rfl rfl ?_) ?_
          rotate_left 1
          · rfl
          · decide
        refine GOps.nil ?_
        refine GWP.seq ?_
        refine GWP.region ?_
        refine GOps.r rfl rfl rfl rfl (grd_move rfl rfl) ?_
        focus
          refine gops_bs rfl rfl rfl rfl (grd_slBS (l := ?_) (h := ?_) (m2 := ?_) (L := ?_) (M := ?_) tab_is rfl rfl rfl rfl ?_ ?_ ?_ ?_ ?_ ?_ ?_) ?_
          rotate_left 5
          refine BS.ext (by assumption) ?_
          refine HExt.push ?_
          · exact HExt.refl _ _
          · refine gbound_const ?_; exact rfl
          · exact rfl
          · exact Nat.le_of_ble_eq_true rfl
          · omega
          · simp; rfl
          · refine Eq.trans (List.take_of_length_le ?_) ?_; rotate_left 1; rfl; (simp; done)
        intro pc10 cc10 c10
        have c10n := BS.len c10
        focus
          refine GOps.w rfl rfl rfl rfl (gop_call rfl Try.call17 rfl ?_ (g_vopen _ _ _ _ ?_ ?_ ?_)) ?_
          · intro _ h; cases h; done
          rotate_left 1
          · assumption
          · omega
        rintro _ _ ⟨⟨gc11, pc12, cc13, rfl, lc14, rc15⟩, xc16⟩
        simp at lc14
        have xc16l := HExt.len xc16; try simp at xc16l
        have rc15g := RG.hg rc15; unfold rdBlk at rc15g
        refine GOps.r rfl rfl rfl rfl (grd_assign rfl rfl) ?_
        refine GOps.nil ?_
        refine GWP.seq ?_
        refine GWP.seq ?_
        refine GWP.region ?_
        refine GOps.r rfl rfl rfl rfl (grd_move rfl rfl) ?_
        refine GOps.nil ?_
        refine GWP.block ?_
        refine GWP.loopN 6 ?_
        refine GRounds.step ?_
        refine GWP.seq ?_
        refine GWP.region ?_
        refine GOps.r rfl rfl rfl rfl (grd_lss rfl rfl rfl) ?_
        refine GOps.nil ?_
        refine GWP.seq ?_
        refine GWP.cond_t rfl ?_ ?_
        · exact decide_eq_true (by omega)
        refine GWP.skip ?_
        refine GWP.seq ?_
        refine GWP.block ?_
        refine GWP.seq ?_
        refine GWP.region ?_
        refine GOps.r rfl rfl rfl rfl (grd_move rfl rfl) ?_
        refine GOps.r rfl rfl rfl rfl (grd_assign rfl rfl) ?_
        refine GOps.nil ?_
        refine GWP.region ?_
        refine GOps.r rfl rfl rfl rfl (grd_move rfl rfl) ?_
        refine GOps.r rfl rfl rfl rfl (grd_move rfl rfl) ?_
        focus
          refine GOps.w rfl rfl rfl rfl (gop_call rfl Try.call24 rfl ?_ (g_num _ _ h1 _ _ ?_ ?_ ?_)) ?_
          · simp [Ctx.may]; omega
          rotate_left 2
          · assumption
        rintro _ _ ⟨rfl, ⟨pc17, cc18, rc19⟩, kc20, xc21⟩
        have xc21l := HExt.len xc21; try simp at xc21l
        have rc19g := RG.hg rc19; unfold rdBlk at rc19g
        refine GOps.r rfl rfl rfl rfl (grd_conv_in tab_is rfl rfl rfl rfl rfl ?_) ?_
        · refine wrap_i64_in ?_; omega
        refine GOps.r rfl rfl rfl rfl (grd_indexAddrA1 tab_is rfl rfl rfl rfl rfl ?_) ?_
        · simp; done
        focus
          refine GOps.s rfl rfl rfl (gop_store1 (b := ?_) tab_is rfl rfl rfl rfl rfl rfl ?_ ?_ ?_ ?_) ?_
          rotate_left 1
          refine (HExt.eq (by assumption) _ ?_ ?_).trans ?_
          · omega
          · simp; omega
          refine (HExt.eq (by assumption) _ ?_ ?_).trans ?_
          · simp; done
          · intro h; cases h; done
          · exact Hp.at_push_eq
          · rfl
          · decide
          · exact .inr (by omega)
        refine GOps.nil ?_
        refine GWP.region ?_
        refine GOps.r rfl rfl rfl rfl (grd_add64 rfl rfl rfl ?_) ?_
        · omega
        refine GOps.r rfl rfl rfl rfl (grd_move rfl rfl) ?_
        refine GOps.nil ?_
        refine GRounds.step ?_
        refine GWP.seq ?_
        refine GWP.region ?_
        refine GOps.r rfl rfl rfl rfl (grd_lss rfl rfl rfl) ?_
        refine GOps.nil ?_
        refine GWP.seq ?_
        refine GWP.cond_t rfl ?_ ?_
        · exact decide_eq_true (by omega)
        refine GWP.skip ?_
        refine GWP.seq ?_
        refine GWP.block ?_
        refine GWP.seq ?_
        refine GWP.region ?_
        refine GOps.r rfl rfl rfl rfl (grd_move rfl rfl) ?_
        refine GOps.r rfl rfl rfl rfl (grd_assign rfl rfl) ?_
        refine GOps.nil ?_
        refine GWP.region ?_
        refine GOps.r rfl rfl rfl rfl (grd_move rfl rfl) ?_
        refine GOps.r rfl rfl rfl rfl (grd_move rfl rfl) ?_
        focus
          refine GOps.w rfl rfl rfl rfl (gop_call rfl Try.call24 rfl ?_ (g_num _ _ h2 _ _ ?_ ?_ ?_)) ?_
          · simp [Ctx.may]; omega
          rotate_left 2
          refine rg_ne (b := ?_) (by assumption) ?_ ?_ ?_ ?_ ?_
          rotate_left 1
          refine (HExt.eq (by assumption) _ ?_ ?_).trans ?_
          · omega
          · simp; omega
          refine (HExt.eq (by assumption) _ ?_ ?_).trans ?_
          · simp; done
          · intro h; cases h; done
          · exact Hp.at_push_eq
          · omega
          · rfl
          · simp; done
          · rfl
        rintro _ _ ⟨rfl, ⟨pc22, cc23, rc24⟩, kc25, xc26⟩
        have xc26l := HExt.len xc26; try simp at xc26l
        have rc24g := RG.hg rc24; unfold rdBlk at rc24g
        refine GOps.r rfl rfl rfl rfl (grd_conv_in tab_is rfl rfl rfl rfl rfl ?_) ?_
        · refine wrap_i64_in ?_; omega
        refine GOps.r rfl rfl rfl rfl (grd_indexAddrA1 tab_is rfl rfl rfl rfl rfl ?_) ?_
        · simp; done
        focus
          refine GOps.s rfl rfl rfl (gop_store1 (b := ?_) tab_is rfl rfl rfl rfl rfl rfl ?_ ?_ ?_ ?_) ?_
          rotate_left 1
          refine (HExt.eq (by assumption) _ ?_ ?_).trans ?_
          · simp; omega
          · simp; omega
          refine Hp.at_put_eq ?_
          · omega
          · rfl
          · exact Nat.le_of_ble_eq_true rfl
          · exact .inr (by omega)
        refine GOps.nil ?_
        refine GWP.region ?_
        refine GOps.r rfl rfl rfl rfl (grd_add64 rfl rfl rfl ?_) ?_
        · omega
        refine GOps.r rfl rfl rfl rfl (grd_move rfl rfl) ?_
        refine GOps.nil ?_
        refine GRounds.step ?_
        refine GWP.seq ?_
        refine GWP.region ?_
        refine GOps.r rfl rfl rfl rfl (grd_lss rfl rfl rfl) ?_
        refine GOps.nil ?_
        refine GWP.seq ?_
        refine GWP.cond_t rfl ?_ ?_
        · exact decide_eq_true (by omega)
        refine GWP.skip ?_
        refine GWP.seq ?_
        refine GWP.block ?_
        refine GWP.seq ?_
        refine GWP.region ?_
        refine GOps.r rfl rfl rfl rfl (grd_move rfl rfl) ?_
        refine GOps.r rfl rfl rfl rfl (grd_assign rfl rfl) ?_
        refine GOps.nil ?_
        refine GWP.region ?_
        refine GOps.r rfl rfl rfl rfl (grd_move rfl rfl) ?_
        refine GOps.r rfl rfl rfl rfl (grd_move rfl rfl) ?_
        focus
          refine GOps.w rfl rfl rfl rfl (gop_call rfl Try.call24 rfl ?_ (g_num _ _ h3 _ _ ?_ ?_ ?_)) ?_
          · simp [Ctx.may]; omega
          rotate_left 2
          refine rg_ne (b := ?_) (by assumption) ?_ ?_ ?_ ?_ ?_
          rotate_left 1
          refine (HExt.eq (by assumption) _ ?_ ?_).trans ?_
          · simp; omega
          · simp; omega
          refine Hp.at_put_eq ?_
          · omega
          · omega
          · rfl
          · simp; done
          · rfl
        rintro _ _ ⟨rfl, ⟨pc27, cc28, rc29⟩, kc30, xc31⟩
        have xc31l := HExt.len xc31; try simp at xc31l
        have rc29g := RG.hg rc29; unfold rdBlk at rc29g
        refine GOps.r rfl rfl rfl rfl (grd_conv_in tab_is rfl rfl rfl rfl rfl ?_) ?_
        · refine wrap_i64_in ?_; omega
        refine GOps.r rfl rfl rfl rfl (grd_indexAddrA1 tab_is rfl rfl rfl rfl rfl ?_) ?_
        · simp; done
        focus
          refine GOps.s rfl rfl rfl (gop_store1 (b := ?_) tab_is rfl rfl rfl rfl rfl rfl ?_ ?_ ?_ ?_) ?_
          rotate_left 1
          refine (HExt.eq (by assumption) _ ?_ ?_).trans ?_
          · simp; omega
          · simp; omega
          refine Hp.at_put_eq ?_
          · omega
          · rfl
          · exact Nat.le_of_ble_eq_true rfl
          · exact .inr (by omega)
        refine GOps.nil ?_
        refine GWP.region ?_
        refine GOps.r rfl rfl rfl rfl (grd_add64 rfl rfl rfl ?_) ?_
        · omega
        refine GOps.r rfl rfl rfl rfl (grd_move rfl rfl) ?_
        refine GOps.nil ?_
        refine GRounds.step ?_
        refine GWP.seq ?_
        refine GWP.region ?_
        refine GOps.r rfl rfl rfl rfl (grd_lss rfl rfl rfl) ?_
        refine GOps.nil ?_
        refine GWP.seq ?_
        refine GWP.cond_t rfl ?_ ?_
        · exact decide_eq_true (by omega)
        refine GWP.skip ?_
        refine GWP.seq ?_
        refine GWP.block ?_
        refine GWP.seq ?_
        refine GWP.region ?_
        refine GOps.r rfl rfl rfl rfl (grd_move rfl rfl) ?_
        refine GOps.r rfl rfl rfl rfl (grd_assign rfl rfl) ?_
        refine GOps.nil ?_
        refine GWP.region ?_
        refine GOps.r rfl rfl rfl rfl (grd_move rfl rfl) ?_
        refine GOps.r rfl rfl rfl rfl (grd_move rfl rfl) ?_
        focus
          refine GOps.w rfl rfl rfl rfl (gop_call rfl Try.call24 rfl ?_ (g_num _ _ h4 _ _ ?_ ?_ ?_)) ?_
          · simp [Ctx.may]; omega
          rotate_left 2
          refine rg_ne (b := ?_) (by assumption) ?_ ?_ ?_ ?_ ?_
          rotate_left 1
          refine (HExt.eq (by assumption) _ ?_ ?_).trans ?_
          · simp; omega
          · simp; omega
          refine Hp.at_put_eq ?_
          · omega
          · omega
          · rfl
          · simp; done
          · rfl
        rintro _ _ ⟨rfl, ⟨pc32, cc33, rc34⟩, kc35, xc36⟩
        have xc36l := HExt.len xc36; try simp at xc36l
        have rc34g := RG.hg rc34; unfold rdBlk at rc34g
        refine GOps.r rfl rfl rfl rfl (grd_conv_in tab_is rfl rfl rfl rfl rfl ?_) ?_
        · refine wrap_i64_in ?_; omega
        refine GOps.r rfl rfl rfl rfl (grd_indexAddrA1 tab_is rfl rfl rfl rfl rfl ?_) ?_
        · simp; done
        focus
          refine GOps.s rfl rfl rfl (gop_store1 (b := ?_) tab_is rfl rfl rfl rfl rfl rfl ?_ ?_ ?_ ?_) ?_
          rotate_left 1
          refine (HExt.eq (by assumption) _ ?_ ?_).trans ?_
          · simp; omega
          · simp; omega
          refine Hp.at_put_eq ?_
          · omega
          · rfl
          · exact Nat.le_of_ble_eq_true rfl
          · exact .inr (by omega)
        refine GOps.nil ?_
        refine GWP.region ?_
        refine GOps.r rfl rfl rfl rfl (grd_add64 rfl rfl rfl ?_) ?_
        · omega
        refine GOps.r rfl rfl rfl rfl (grd_move rfl rfl) ?_
        refine GOps.nil ?_
        refine GRounds.step ?_
        refine GWP.seq ?_
        refine GWP.region ?_
        refine GOps.r rfl rfl rfl rfl (grd_lss rfl rfl rfl) ?_
        refine GOps.nil ?_
        refine GWP.seq ?_
        refine GWP.cond_t rfl ?_ ?_
        · exact decide_eq_true (by omega)
        refine GWP.skip ?_
        refine GWP.seq ?_
        refine GWP.block ?_
        refine GWP.seq ?_
        refine GWP.region ?_
        refine GOps.r rfl rfl rfl rfl (grd_move rfl rfl) ?_
        refine GOps.r rfl rfl rfl rfl (grd_assign rfl rfl) ?_
        refine GOps.nil ?_
        refine GWP.region ?_
        refine GOps.r rfl rfl rfl rfl (grd_move rfl rfl) ?_
        refine GOps.r rfl rfl rfl rfl (grd_move rfl rfl) ?_
        focus
          refine GOps.w rfl rfl rfl rfl (gop_call rfl Try.call24 rfl ?_ (g_num _ _ h5 _ _ ?_ ?_ ?_)) ?_
          · simp [Ctx.may]; omega
          rotate_left 2
          refine rg_ne (b := ?_) (by assumption) ?_ ?_ ?_ ?_ ?_
          rotate_left 1
          refine (HExt.eq (by assumption) _ ?_ ?_).trans ?_
          · simp; omega
          · simp; omega
          refine Hp.at_put_eq ?_
          · omega
          · omega
          · rfl
          · simp; done
          · rfl
        rintro _ _ ⟨rfl, ⟨pc37, cc38, rc39⟩, kc40, xc41⟩
        have xc41l := HExt.len xc41; try simp at xc41l
        have rc39g := RG.hg rc39; unfold rdBlk at rc39g
        refine GOps.r rfl rfl rfl rfl (grd_conv_in tab_is rfl rfl rfl rfl rfl ?_) ?_
        · refine wrap_i64_in ?_; omega
        refine GOps.r rfl rfl rfl rfl (grd_indexAddrA1 tab_is rfl rfl rfl rfl rfl ?_) ?_
        · simp; done
        focus
          refine GOps.s rfl rfl rfl (gop_store1 (b := ?_) tab_is rfl rfl rfl rfl rfl rfl ?_ ?_ ?_ ?_) ?_
          rotate_left 1
          refine (HExt.eq (by assumption) _ ?_ ?_).trans ?_
          · simp; omega
          · simp; omega
          refine Hp.at_put_eq ?_
          · omega
          · rfl
          · exact Nat.le_of_ble_eq_true rfl
          · exact .inr (by omega)
        refine GOps.nil ?_
        refine GWP.region ?_
        refine GOps.r rfl rfl rfl rfl (grd_add64 rfl rfl rfl ?_) ?_
        · omega
        refine GOps.r rfl rfl rfl rfl (grd_move rfl rfl) ?_
        refine GOps.nil ?_
        refine GRounds.step ?_
        refine GWP.seq ?_
        refine GWP.region ?_
        refine GOps.r rfl rfl rfl rfl (grd_lss rfl rfl rfl) ?_
        refine GOps.nil ?_
        refine GWP.seq ?_
        refine GWP.cond_f rfl ?_ ?_
        · exact decide_eq_false (by omega)
        refine GWP.exit ?_
        refine GWP.seq ?_
        refine GWP.block ?_
        refine GWP.seq ?_
        refine GWP.region ?_
        refine GOps.r rfl rfl rfl rfl (grd_move rfl rfl) ?_
        focus
          refine GOps.w1 rfl rfl rfl rfl (gop_call rfl Try.call25 rfl ?_ (g_end _ _ ?_ ?_ ?_ ?_)) ?_
          · intro _ h; cases h; done
          rotate_left 3
          refine rg_ne (b := ?_) (by assumption) ?_ ?_ ?_ ?_ ?_
          rotate_left 1
          refine (HExt.eq (by assumption) _ ?_ ?_).trans ?_
          · simp; omega
          · simp; omega
          refine Hp.at_put_eq ?_
          · omega
          · omega
          · rfl
          · simp; done
          · rfl
        refine GOps.r rfl rfl rfl rfl (grd_neq rfl rfl rfl) ?_
        refine GOps.r rfl rfl rfl rfl (grd_assign rfl rfl) ?_
        refine GOps.nil ?_
        refine GWP.cond rfl (fun c42 => ?_) (fun c42 => ?_)
        simp only [beq_true, beq_false, Bool.not_true, Bool.not_false, Bool.not_eq_true', Bool.not_eq_false', decide_eq_true_eq, decide_eq_false_iff_not] at c42
        refine GWP.skip ?_
        refine GWP.seq ?_
        refine GWP.region ?_
        refine GOps.r rfl rfl rfl rfl (grd_assign rfl rfl) ?_
        refine GOps.r rfl rfl rfl rfl (grd_assign rfl rfl) ?_
        refine GOps.nil ?_
        refine GWP.ret ?_
        refine ⟨_, .two (.one rfl) (.one rfl), ?_⟩
        refine ⟨?_, ?_⟩
        · rw [if_neg (by omega), segN, if_pos (by omega)]; rfl
        refine HExt.put ?_ ?_
        refine HExt.tr ?_ (by assumption) ?_
        refine HExt.put ?_ ?_
        refine HExt.tr ?_ (by assumption) ?_
        refine HExt.put ?_ ?_
        refine HExt.tr ?_ (by assumption) ?_
        refine HExt.put ?_ ?_
        refine HExt.tr ?_ (by assumption) ?_
        refine HExt.put ?_ ?_
        refine HExt.tr ?_ (by assumption) ?_
        refine HExt.tr ?_ (by assumption) ?_
        refine HExt.push ?_
        · assumption
        · intro _ h; cases h; done
        · simp; omega
        · exact .inr (by omega)
        · simp; omega
        · exact .inr (by omega)
        · simp; omega
        · exact .inr (by omega)
        · simp; omega
        · exact .inr (by omega)
        · simp; omega
        · exact .inr (by omega)
        simp only [beq_true, beq_false, Bool.not_true, Bool.not_false, Bool.not_eq_true', Bool.not_eq_false', decide_eq_true_eq, decide_eq_false_iff_not] at c42
        refine GWP.seq ?_
        refine GWP.region ?_
        refine GOps.r rfl rfl rfl rfl (grd_move rfl rfl) ?_
        focus
          refine GOps.r rfl rfl rfl rfl (grd_indexBS (q := ?_) (L := ?_) tab_is rfl rfl rfl rfl rfl ?_ ?_ ?_) ?_
          rotate_left 2
          refine BS.ext (by assumption) ?_
          refine HExt.put ?_ ?_
          refine HExt.tr ?_ (by assumption) ?_
          refine HExt.put ?_ ?_
          refine HExt.tr ?_ (by assumption) ?_
          refine HExt.put ?_ ?_
          refine HExt.tr ?_ (by assumption) ?_
          refine HExt.put ?_ ?_
          refine HExt.tr ?_ (by assumption) ?_
          refine HExt.put ?_ ?_
          refine HExt.tr ?_ (by assumption) ?_
          refine HExt.tr ?_ (by assumption) ?_
          refine HExt.push ?_
          · exact HExt.refl _ _
          · intro _ h; cases h; done
          · simp; omega
          · exact .inr (by omega)
          · simp; omega
          · exact .inr (by omega)
          · simp; omega
          · exact .inr (by omega)
          · simp; omega
          · exact .inr (by omega)
          · simp; omega
          · exact .inr (by omega)
          · rfl
          · exact Nat.le_of_ble_eq_true rfl
        focus
          refine GOps.re rfl rfl rfl rfl (grd_loadBSK (n := ?_) (c := ?_) (L := ?_) (u := ?_) tab_is rfl rfl rfl rfl ?_ ?_ ?_) ?_
          rotate_left 4
          refine BS.ext (by assumption) ?_
          refine HExt.put ?_ ?_
          refine HExt.tr ?_ (by assumption) ?_
          refine HExt.put ?_ ?_
          refine HExt.tr ?_ (by assumption) ?_
          refine HExt.put ?_ ?_
          refine HExt.tr ?_ (by assumption) ?_
          refine HExt.put ?_ ?_
          refine HExt.tr ?_ (by assumption) ?_
          refine HExt.put ?_ ?_
          refine HExt.tr ?_ (by assumption) ?_
          refine HExt.tr ?_ (by assumption) ?_
          refine HExt.push ?_
          · exact HExt.refl _ _
          · intro _ h; cases h; done
          · simp; omega
          · exact .inr (by omega)
          · simp; omega
          · exact .inr (by omega)
          · simp; omega
          · exact .inr (by omega)
          · simp; omega
          · exact .inr (by omega)
          · simp; omega
          · exact .inr (by omega)
          · exact Nat.le_of_ble_eq_true rfl
          · simp only [List.getD_cons_zero]; rfl
        refine GOps.r rfl rfl rfl rfl (grd_eql rfl rfl rfl) ?_
        refine GOps.r rfl rfl rfl rfl (grd_assign rfl rfl) ?_
        refine GOps.nil ?_
        refine GWP.cond_f rfl ?_ ?_
        · exact decide_eq_false (by omega)
        refine GWP.seq ?_
        refine GWP.region ?_
        refine GOps.r rfl rfl rfl rfl (grd_move rfl rfl) ?_
        focus
          refine GOps.r rfl rfl rfl rfl (grd_indexBS (q := ?_) (L := ?_) tab_is rfl rfl rfl rfl rfl ?_ ?_ ?_) ?_
          rotate_left 2
          refine BS.ext (by assumption) ?_
          refine HExt.put ?_ ?_
          refine HExt.tr ?_ (by assumption) ?_
          refine HExt.put ?_ ?_
          refine HExt.tr ?_ (by assumption) ?_
          refine HExt.put ?_ ?_
          refine HExt.tr ?_ (by assumption) ?_
          refine HExt.put ?_ ?_
          refine HExt.tr ?_ (by assumption) ?_
          refine HExt.put ?_ ?_
          refine HExt.tr ?_ (by assumption) ?_
          refine HExt.tr ?_ (by assumption) ?_
          refine HExt.push ?_
          · exact HExt.refl _ _
          · intro _ h; cases h; done
          · simp; omega
          · exact .inr (by omega)
          · simp; omega
          · exact .inr (by omega)
          · simp; omega
          · exact .inr (by omega)
          · simp; omega
          · exact .inr (by omega)
          · simp; omega
          · exact .inr (by omega)
          · rfl
          · exact Nat.le_of_ble_eq_true rfl
        focus
          refine GOps.re rfl rfl rfl rfl (grd_loadBSK (n := ?_) (c := ?_) (L := ?_) (u := ?_) tab_is rfl rfl rfl rfl ?_ ?_ ?_) ?_
          rotate_left 4
          refine BS.ext (by assumption) ?_
          refine HExt.put ?_ ?_
          refine HExt.tr ?_ (by assumption) ?_
          refine HExt.put ?_ ?_
          refine HExt.tr ?_ (by assumption) ?_
          refine HExt.put ?_ ?_
          refine HExt.tr ?_ (by assumption) ?_
          refine HExt.put ?_ ?_
          refine HExt.tr ?_ (by assumption) ?_
          refine HExt.put ?_ ?_
          refine HExt.tr ?_ (by assumption) ?_
          refine HExt.tr ?_ (by assumption) ?_
          refine HExt.push ?_
          · exact HExt.refl _ _
          · intro _ h; cases h; done
          · simp; omega
          · exact .inr (by omega)
          · simp; omega
          · exact .inr (by omega)
          · simp; omega
          · exact .inr (by omega)
          · simp; omega
          · exact .inr (by omega)
          · simp; omega
          · exact .inr (by omega)
          · exact Nat.le_of_ble_eq_true rfl
          · simp only [List.getD_cons_zero]; rfl
        refine GOps.r rfl rfl rfl rfl (grd_eql rfl rfl rfl) ?_
        refine GOps.r rfl rfl rfl rfl (grd_move rfl rfl) ?_
        refine GOps.no rfl ?_ rfl rfl ?_
        · simp; omega
        refine GOps.no rfl ?_ rfl rfl ?_
        · simp; omega
        refine GOps.no rfl ?_ rfl rfl ?_
        · simp; omega
        refine GOps.r rfl rfl rfl rfl (grd_pick_f rfl rfl ?_ rfl) ?_
        · exact decide_eq_false (by omega)
        refine GOps.r rfl rfl rfl rfl (grd_assign rfl rfl) ?_
        refine GOps.nil ?_
        refine GWP.cond_f rfl ?_ ?_
        · with_reducible rfl
        refine GWP.skip ?_
        refine GWP.seq ?_
        refine GWP.region ?_
        refine GOps.r rfl rfl rfl rfl (grd_assign rfl rfl) ?_
        refine GOps.r rfl rfl rfl rfl (grd_assign rfl rfl) ?_
        refine GOps.nil ?_
        refine GWP.ret ?_
        refine ⟨_, .two (.one rfl) (.one rfl), ?_⟩
        refine ⟨?_, ?_⟩
        · rw [if_neg (by omega), segN, if_neg (by omega), if_neg (by omega), if_neg (by omega)]; rfl
        refine HExt.put ?_ ?_
        refine HExt.tr ?_ (by assumption) ?_
        refine HExt.put ?_ ?_
        refine HExt.tr ?_ (by assumption) ?_
        refine HExt.put ?_ ?_
        refine HExt.tr ?_ (by assumption) ?_
        refine HExt.put ?_ ?_
        refine HExt.tr ?_ (by assumption) ?_
        refine HExt.put ?_ ?_
        refine HExt.tr ?_ (by assumption) ?_
        refine HExt.tr ?_ (by assumption) ?_
        refine HExt.push ?_
        · assumption
        · intro _ h; cases h; done
        · simp; omega
        · exact .inr (by omega)
        · simp; omega
        · exact .inr (by omega)
        · simp; omega
        · exact .inr (by omega)
        · simp; omega
        · exact .inr (by omega)
        · simp; omega
        · exact .inr (by omega)
        simp only [beq_true, beq_false, Bool.not_true, Bool.not_false, Bool.not_eq_true', Bool.not_eq_false', decide_eq_true_eq, decide_eq_false_iff_not] at c7
        refine GOps.no rfl ?_ rfl rfl ?_
        · exact beq_eq_false_iff_ne.2 (by rw [decide_eq_false (by assumption)]; decide)
        refine GOps.no rfl ?_ rfl rfl ?_
        · exact beq_eq_false_iff_ne.2 (by rw [decide_eq_false (by assumption)]; decide)
        refine GOps.no rfl ?_ rfl rfl ?_
        · exact beq_eq_false_iff_ne.2 (by rw [decide_eq_false (by assumption)]; decide)
        refine GOps.r rfl rfl rfl rfl (grd_pick_f rfl rfl ?_ rfl) ?_
        · exact decide_eq_false (by assumption)
        refine GOps.r rfl rfl rfl rfl (grd_assign rfl rfl) ?_
        refine GOps.nil ?_
        refine GWP.cond_f rfl ?_ ?_
        · with_reducible rfl
        refine GWP.skip ?_
        refine GWP.seq ?_
        refine GWP.region ?_
        focus
          refine GOps.w1 rfl rfl rfl rfl (gop_alloc' (id := ?_) ?_ tab_is rfl rfl ?_) ?_
          rotate_left 1
          · rfl
          · decide
        refine GOps.nil ?_
        refine GWP.seq ?_
        refine GWP.region ?_
        refine GOps.r rfl rfl rfl rfl (grd_move rfl rfl) ?_
        focus
          refine gops_bs rfl rfl rfl rfl (grd_slBS (l := ?_) (h := ?_) (m2 := ?_) (L := ?_) (M := ?_) tab_is rfl rfl rfl rfl ?_ ?_ ?_ ?_ ?_ ?_ ?_) ?_
          rotate_left 5
          refine BS.ext (by assumption) ?_
          refine HExt.push ?_
          · exact HExt.refl _ _
          · refine gbound_const ?_; exact rfl
          · exact rfl
          · exact Nat.le_of_ble_eq_true rfl
          · omega
          · simp; rfl
          · refine Eq.trans (List.take_of_length_le ?_) ?_; rotate_left 1; rfl; (simp; done)
        intro pc43 cc43 c43
        have c43n := BS.len c43
        focus
          refine GOps.w rfl rfl rfl rfl (gop_call rfl Try.call17 rfl ?_ (g_vopen _ _ _ _ ?_ ?_ ?_)) ?_
          · intro _ h; cases h; done
          rotate_left 1
          · assumption
          · omega
        rintro _ _ ⟨⟨gc44, pc45, cc46, rfl, lc47, rc48⟩, xc49⟩
        simp at lc47
        have xc49l := HExt.len xc49; try simp at xc49l
        have rc48g := RG.hg rc48; unfold rdBlk at rc48g
        refine GOps.r rfl rfl rfl rfl (grd_assign rfl rfl) ?_
        refine GOps.nil ?_
        refine GWP.seq ?_
        refine GWP.seq ?_
        refine GWP.region ?_
        refine GOps.r rfl rfl rfl rfl (grd_move rfl rfl) ?_
        refine GOps.nil ?_
        refine GWP.block ?_
        refine GWP.loopN 6 ?_
        refine GRounds.step ?_
        refine GWP.seq ?_
        refine GWP.region ?_
        refine GOps.r rfl rfl rfl rfl (grd_lss rfl rfl rfl) ?_
        refine GOps.nil ?_
        refine GWP.seq ?_
        refine GWP.cond_t rfl ?_ ?_
        · exact decide_eq_true (by omega)
        refine GWP.skip ?_
        refine GWP.seq ?_
        refine GWP.block ?_
        refine GWP.seq ?_
        refine GWP.region ?_
        refine GOps.r rfl rfl rfl rfl (grd_move rfl rfl) ?_
        refine GOps.r rfl rfl rfl rfl (grd_assign rfl rfl) ?_
        refine GOps.nil ?_
        refine GWP.region ?_
        refine GOps.r rfl rfl rfl rfl (grd_move rfl rfl) ?_
        refine GOps.r rfl rfl rfl rfl (grd_move rfl rfl) ?_
        focus
          refine GOps.w rfl rfl rfl rfl (gop_call rfl Try.call24 rfl ?_ (g_num _ _ h1 _ _ ?_ ?_ ?_)) ?_
          · simp [Ctx.may]; omega
          rotate_left 2
          · assumption
        rintro _ _ ⟨rfl, ⟨pc50, cc51, rc52⟩, kc53, xc54⟩
        have xc54l := HExt.len xc54; try simp at xc54l
        have rc52g := RG.hg rc52; unfold rdBlk at rc52g
        refine GOps.r rfl rfl rfl rfl (grd_conv_in tab_is rfl rfl rfl rfl rfl ?_) ?_
        · refine wrap_i64_in ?_; omega
        refine GOps.r rfl rfl rfl rfl (grd_indexAddrA1 tab_is rfl rfl rfl rfl rfl ?_) ?_
        · simp; done
        focus
          refine GOps.s rfl rfl rfl (gop_store1 (b := ?_) tab_is rfl rfl rfl rfl rfl rfl ?_ ?_ ?_ ?_) ?_
          rotate_left 1
          refine (HExt.eq (by assumption) _ ?_ ?_).trans ?_
          · omega
          · simp; omega
          refine (HExt.eq (by assumption) _ ?_ ?_).trans ?_
          · simp; done
          · intro h; cases h; done
          · exact Hp.at_push_eq
          · rfl
          · decide
          · exact .inr (by omega)
        refine GOps.nil ?_
        refine GWP.region ?_
        refine GOps.r rfl rfl rfl rfl (grd_add64 rfl rfl rfl ?_) ?_
        · omega
        refine GOps.r rfl rfl rfl rfl (grd_move rfl rfl) ?_
        refine GOps.nil ?_
        refine GRounds.step ?_
        refine GWP.seq ?_
        refine GWP.region ?_
        refine GOps.r rfl rfl rfl rfl (grd_lss rfl rfl rfl) ?_
        refine GOps.nil ?_
        refine GWP.seq ?_
        refine GWP.cond_t rfl ?_ ?_
        · exact decide_eq_true (by omega)
        refine GWP.skip ?_
        refine GWP.seq ?_
        refine GWP.block ?_
        refine GWP.seq ?_
        refine GWP.region ?_
        refine GOps.r rfl rfl rfl rfl (grd_move rfl rfl) ?_
        refine GOps.r rfl rfl rfl rfl (grd_assign rfl rfl) ?_
        refine GOps.nil ?_
        refine GWP.region ?_
        refine GOps.r rfl rfl rfl rfl (grd_move rfl rfl) ?_
        refine GOps.r rfl rfl rfl rfl (grd_move rfl rfl) ?_
        focus
          refine GOps.w rfl rfl rfl rfl (gop_call rfl Try.call24 rfl ?_ (g_num _ _ h2 _ _ ?_ ?_ ?_)) ?_
          · simp [Ctx.may]; omega
          rotate_left 2
          refine rg_ne (b := ?_) (by assumption) ?_ ?_ ?_ ?_ ?_
          rotate_left 1
          refine (HExt.eq (by assumption) _ ?_ ?_).trans ?_
          · omega
          · simp; omega
          refine (HExt.eq (by assumption) _ ?_ ?_).trans ?_
          · simp; done
          · intro h; cases h; done
          · exact Hp.at_push_eq
          · omega
          · rfl
          · simp; done
          · rfl
        rintro _ _ ⟨rfl, ⟨pc55, cc56, rc57⟩, kc58, xc59⟩
        have xc59l := HExt.len xc59; try simp at xc59l
        have rc57g := RG.hg rc57; unfold rdBlk at rc57g
        refine GOps.r rfl rfl rfl rfl (grd_conv_in tab_is rfl rfl rfl rfl rfl ?_) ?_
        · refine wrap_i64_in ?_; omega
        refine GOps.r rfl rfl rfl rfl (grd_indexAddrA1 tab_is rfl rfl rfl rfl rfl ?_) ?_
        · simp; done
        focus
          refine GOps.s rfl rfl rfl (gop_store1 (b := ?_) tab_is rfl rfl rfl rfl rfl rfl ?_ ?_ ?_ ?_) ?_
          rotate_left 1
          refine (HExt.eq (by assumption) _ ?_ ?_).trans ?_
          · simp; omega
          · simp; omega
          refine Hp.at_put_eq ?_
          · omega
          · rfl
          · exact Nat.le_of_ble_eq_true rfl
          · exact .inr (by omega)
        refine GOps.nil ?_
        refine GWP.region ?_
        refine GOps.r rfl rfl rfl rfl (grd_add64 rfl rfl rfl ?_) ?_
        · omega
        refine GOps.r rfl rfl rfl rfl (grd_move rfl rfl) ?_
        refine GOps.nil ?_
        refine GRounds.step ?_
        refine GWP.seq ?_
        refine GWP.region ?_
        refine GOps.r rfl rfl rfl rfl (grd_lss rfl rfl rfl) ?_
        refine GOps.nil ?_
        refine GWP.seq ?_
        refine GWP.cond_t rfl ?_ ?_
        · exact decide_eq_true (by omega)
        refine GWP.skip ?_
        refine GWP.seq ?_
        refine GWP.block ?_
        refine GWP.seq ?_
        refine GWP.region ?_
        refine GOps.r rfl rfl rfl rfl (grd_move rfl rfl) ?_
        refine GOps.r rfl rfl rfl rfl (grd_assign rfl rfl) ?_
        refine GOps.nil ?_
        refine GWP.region ?_
        refine GOps.r rfl rfl rfl rfl (grd_move rfl rfl) ?_
        refine GOps.r rfl rfl rfl rfl (grd_move rfl rfl) ?_
        focus
          refine GOps.w rfl rfl rfl rfl (gop_call rfl Try.call24 rfl ?_ (g_num _ _ h3 _ _ ?_ ?_ ?_)) ?_
          · simp [Ctx.may]; omega
          rotate_left 2
          refine rg_ne (b := ?_) (by assumption) ?_ ?_ ?_ ?_ ?_
          rotate_left 1
          refine (HExt.eq (by assumption) _ ?_ ?_).trans ?_
          · simp; omega
          · simp; omega
          refine Hp.at_put_eq ?_
          · omega
          · omega
          · rfl
          · simp; done
          · rfl
        rintro _ _ ⟨rfl, ⟨pc60, cc61, rc62⟩, kc63, xc64⟩
        have xc64l := HExt.len xc64; try simp at xc64l
        have rc62g := RG.hg rc62; unfold rdBlk at rc62g
        refine GOps.r rfl rfl rfl rfl (grd_conv_in tab_is rfl rfl rfl rfl rfl ?_) ?_
        · refine wrap_i64_in ?_; omega
        refine GOps.r rfl rfl rfl rfl (grd_indexAddrA1 tab_is rfl rfl rfl rfl rfl ?_) ?_
        · simp; done
        focus
          refine GOps.s rfl rfl rfl (gop_store1 (b := ?_) tab_is rfl rfl rfl rfl rfl rfl ?_ ?_ ?_ ?_) ?_
          rotate_left 1
          refine (HExt.eq (by assumption) _ ?_ ?_).trans ?_
          · simp; omega
          · simp; omega
          refine Hp.at_put_eq ?_
          · omega
          · rfl
          · exact Nat.le_of_ble_eq_true rfl
          · exact .inr (by omega)
        refine GOps.nil ?_
        refine GWP.region ?_
        refine GOps.r rfl rfl rfl rfl (grd_add64 rfl rfl rfl ?_) ?_
        · omega
        refine GOps.r rfl rfl rfl rfl (grd_move rfl rfl) ?_
        refine GOps.nil ?_
        refine GRounds.step ?_
        refine GWP.seq ?_
        refine GWP.region ?_
        refine GOps.r rfl rfl rfl rfl (grd_lss rfl rfl rfl) ?_
        refine GOps.nil ?_
        refine GWP.seq ?_
        refine GWP.cond_t rfl ?_ ?_
        · exact decide_eq_true (by omega)
        refine GWP.skip ?_
        refine GWP.seq ?_
        refine GWP.block ?_
        refine GWP.seq ?_
        refine GWP.region ?_
        refine GOps.r rfl rfl rfl rfl (grd_move rfl rfl) ?_
        refine GOps.r rfl rfl rfl rfl (grd_assign rfl rfl) ?_
        refine GOps.nil ?_
        refine GWP.region ?_
        refine GOps.r rfl rfl rfl rfl (grd_move rfl rfl) ?_
        refine GOps.r rfl rfl rfl rfl (grd_move rfl rfl) ?_
        focus
          refine GOps.w rfl rfl rfl rfl (gop_call rfl Try.call24 rfl ?_ (g_num _ _ h4 _ _ ?_ ?_ ?_)) ?_
          · simp [Ctx.may]; omega
          rotate_left 2
          refine rg_ne (b := ?_) (by assumption) ?_ ?_ ?_ ?_ ?_
          rotate_left 1
          refine (HExt.eq (by assumption) _ ?_ ?_).trans ?_
          · simp; omega
          · simp; omega
          refine Hp.at_put_eq ?_
          · omega
          · omega
          · rfl
          · simp; done
          · rfl
        rintro _ _ ⟨rfl, ⟨pc65, cc66, rc67⟩, kc68, xc69⟩
        have xc69l := HExt.len xc69; try simp at xc69l
        have rc67g := RG.hg rc67; unfold rdBlk at rc67g
        refine GOps.r rfl rfl rfl rfl (grd_conv_in tab_is rfl rfl rfl rfl rfl ?_) ?_
        · refine wrap_i64_in ?_; omega
        refine GOps.r rfl rfl rfl rfl (grd_indexAddrA1 tab_is rfl rfl rfl rfl rfl ?_) ?_
        · simp; done
        focus
          refine GOps.s rfl rfl rfl (gop_store1 (b := ?_) tab_is rfl rfl rfl rfl rfl rfl ?_ ?_ ?_ ?_) ?_
          rotate_left 1
          refine (HExt.eq (by assumption) _ ?_ ?_).trans ?_
          · simp; omega
          · simp; omega
          refine Hp.at_put_eq ?_
          · omega
          · rfl
          · exact Nat.le_of_ble_eq_true rfl
          · exact .inr (by omega)
        refine GOps.nil ?_
        refine GWP.region ?_
        refine GOps.r rfl rfl rfl rfl (grd_add64 rfl rfl rfl ?_) ?_
        · omega
        refine GOps.r rfl rfl rfl rfl (grd_move rfl rfl) ?_
        refine GOps.nil ?_
        refine GRounds.step ?_
        refine GWP.seq ?_
        refine GWP.region ?_
        refine GOps.r rfl rfl rfl rfl (grd_lss rfl rfl rfl) ?_
        refine GOps.nil ?_
        refine GWP.seq ?_
        refine GWP.cond_t rfl ?_ ?_
        · exact decide_eq_true (by omega)
        refine GWP.skip ?_
        refine GWP.seq ?_
        refine GWP.block ?_
        refine GWP.seq ?_
        refine GWP.region ?_
        refine GOps.r rfl rfl rfl rfl (grd_move rfl rfl) ?_
        refine GOps.r rfl rfl rfl rfl (grd_assign rfl rfl) ?_
        refine GOps.nil ?_
        refine GWP.region ?_
        refine GOps.r rfl rfl rfl rfl (grd_move rfl rfl) ?_
        refine GOps.r rfl rfl rfl rfl (grd_move rfl rfl) ?_
        focus
          refine GOps.w rfl rfl rfl rfl (gop_call rfl Try.call24 rfl ?_ (g_num _ _ h5 _ _ ?_ ?_ ?_)) ?_
          · simp [Ctx.may]; omega
          rotate_left 2
          refine rg_ne (b := ?_) (by assumption) ?_ ?_ ?_ ?_ ?_
          rotate_left 1
          refine (HExt.eq (by assumption) _ ?_ ?_).trans ?_
          · simp; omega
          · simp; omega
          refine Hp.at_put_eq ?_
          · omega
          · omega
          · rfl
          · simp; done
          · rfl
        rintro _ _ ⟨rfl, ⟨pc70, cc71, rc72⟩, kc73, xc74⟩
        have xc74l := HExt.len xc74; try simp at xc74l
        have rc72g := RG.hg rc72; unfold rdBlk at rc72g
        refine GOps.r rfl rfl rfl rfl (grd_conv_in tab_is rfl rfl rfl rfl rfl ?_) ?_
        · refine wrap_i64_in ?_; omega
        refine GOps.r rfl rfl rfl rfl (grd_indexAddrA1 tab_is rfl rfl rfl rfl rfl ?_) ?_
        · simp; done
        focus
          refine GOps.s rfl rfl rfl (gop_store1 (b := ?_) tab_is rfl rfl rfl rfl rfl rfl ?_ ?_ ?_ ?_) ?_
          rotate_left 1
          refine (HExt.eq (by assumption) _ ?_ ?_).trans ?_
          · simp; omega
          · simp; omega
          refine Hp.at_put_eq ?_
          · omega
          · rfl
          · exact Nat.le_of_ble_eq_true rfl
          · exact .inr (by omega)
        refine GOps.nil ?_
        refine GWP.region ?_
        refine GOps.r rfl rfl rfl rfl (grd_add64 rfl rfl rfl ?_) ?_
        · omega
        refine GOps.r rfl rfl rfl rfl (grd_move rfl rfl) ?_
        refine GOps.nil ?_
        refine GRounds.step ?_
        refine GWP.seq ?_
        refine GWP.region ?_
        refine GOps.r rfl rfl rfl rfl (grd_lss rfl rfl rfl) ?_
        refine GOps.nil ?_
        refine GWP.seq ?_
        refine GWP.cond_f rfl ?_ ?_
        · exact decide_eq_false (by omega)
        refine GWP.exit ?_
        refine GWP.seq ?_
        refine GWP.block ?_
        refine GWP.seq ?_
        refine GWP.region ?_
        refine GOps.r rfl rfl rfl rfl (grd_move rfl rfl) ?_
        focus
          refine GOps.w1 rfl rfl rfl rfl (gop_call rfl Try.call25 rfl ?_ (g_end _ _ ?_ ?_ ?_ ?_)) ?_
          · intro _ h; cases h; done
          rotate_left 3
          refine rg_ne (b := ?_) (by assumption) ?_ ?_ ?_ ?_ ?_
          rotate_left 1
          refine (HExt.eq (by assumption) _ ?_ ?_).trans ?_
          · simp; omega
          · simp; omega
          refine Hp.at_put_eq ?_
          · omega
          · omega
          · rfl
          · simp; done
          · rfl
        refine GOps.r rfl rfl rfl rfl (grd_neq rfl rfl rfl) ?_
        refine GOps.r rfl rfl rfl rfl (grd_assign rfl rfl) ?_
        refine GOps.nil ?_
        refine GWP.cond rfl (fun c75 => ?_) (fun c75 => ?_)
        simp only [beq_true, beq_false, Bool.not_true, Bool.not_false, Bool.not_eq_true', Bool.not_eq_false', decide_eq_true_eq, decide_eq_false_iff_not] at c75
        refine GWP.skip ?_
        refine GWP.seq ?_
        refine GWP.region ?_
        refine GOps.r rfl rfl rfl rfl (grd_assign rfl rfl) ?_
        refine GOps.r rfl rfl rfl rfl (grd_assign rfl rfl) ?_
        refine GOps.nil ?_
        refine GWP.ret ?_
        refine ⟨_, .two (.one rfl) (.one rfl), ?_⟩
        refine ⟨?_, ?_⟩
        · rw [if_neg (by omega), segN, if_pos (by omega)]; rfl
        refine HExt.put ?_ ?_
        refine HExt.tr ?_ (by assumption) ?_
        refine HExt.put ?_ ?_
        refine HExt.tr ?_ (by assumption) ?_
        refine HExt.put ?_ ?_
        refine HExt.tr ?_ (by assumption) ?_
        refine HExt.put ?_ ?_
        refine HExt.tr ?_ (by assumption) ?_
        refine HExt.put ?_ ?_
        refine HExt.tr ?_ (by assumption) ?_
        refine HExt.tr ?_ (by assumption) ?_
        refine HExt.push ?_
        · assumption
        · intro _ h; cases h; done
        · simp; omega
        · exact .inr (by omega)
        · simp; omega
        · exact .inr (by omega)
        · simp; omega
        · exact .inr (by omega)
        · simp; omega
        · exact .inr (by omega)
        · simp; omega
        · exact .inr (by omega)
        simp only [beq_true, beq_false, Bool.not_true, Bool.not_false, Bool.not_eq_true', Bool.not_eq_false', decide_eq_true_eq, decide_eq_false_iff_not] at c75
        refine GWP.seq ?_
        refine GWP.region ?_
        refine GOps.r rfl rfl rfl rfl (grd_move rfl rfl) ?_
        focus
          refine GOps.r rfl rfl rfl rfl (grd_indexBS (q := ?_) (L := ?_) tab_is rfl rfl rfl rfl rfl ?_ ?_ ?_) ?_
          rotate_left 2
          refine BS.ext (by assumption) ?_
          refine HExt.put ?_ ?_
          refine HExt.tr ?_ (by assumption) ?_
          refine HExt.put ?_ ?_
          refine HExt.tr ?_ (by assumption) ?_
          refine HExt.put ?_ ?_
          refine HExt.tr ?_ (by assumption) ?_
          refine HExt.put ?_ ?_
          refine HExt.tr ?_ (by assumption) ?_
          refine HExt.put ?_ ?_
          refine HExt.tr ?_ (by assumption) ?_
          refine HExt.tr ?_ (by assumption) ?_
          refine HExt.push ?_
          · exact HExt.refl _ _
          · intro _ h; cases h; done
          · simp; omega
          · exact .inr (by omega)
          · simp; omega
          · exact .inr (by omega)
          · simp; omega
          · exact .inr (by omega)
          · simp; omega
          · exact .inr (by omega)
          · simp; omega
          · exact .inr (by omega)
          · rfl
          · exact Nat.le_of_ble_eq_true rfl
        focus
          refine GOps.re rfl rfl rfl rfl (grd_loadBSK (n := ?_) (c := ?_) (L := ?_) (u := ?_) tab_is rfl rfl rfl rfl ?_ ?_ ?_) ?_
          rotate_left 4
          refine BS.ext (by assumption) ?_
          refine HExt.put ?_ ?_
          refine HExt.tr ?_ (by assumption) ?_
          refine HExt.put ?_ ?_
          refine HExt.tr ?_ (by assumption) ?_
          refine HExt.put ?_ ?_
          refine HExt.tr ?_ (by assumption) ?_
          refine HExt.put ?_ ?_
          refine HExt.tr ?_ (by assumption) ?_
          refine HExt.put ?_ ?_
          refine HExt.tr ?_ (by assumption) ?_
          refine HExt.tr ?_ (by assumption) ?_
          refine HExt.push ?_
          · exact HExt.refl _ _
          · intro _ h; cases h; done
          · simp; omega
          · exact .inr (by omega)
          · simp; omega
          · exact .inr (by omega)
          · simp; omega
          · exact .inr (by omega)
          · simp; omega
          · exact .inr (by omega)
          · simp; omega
          · exact .inr (by omega)
          · exact Nat.le_of_ble_eq_true rfl
          · simp only [List.getD_cons_zero]; rfl
        refine GOps.r rfl rfl rfl rfl (grd_eql rfl rfl rfl) ?_
        refine GOps.r rfl rfl rfl rfl (grd_assign rfl rfl) ?_
        refine GOps.nil ?_
        refine GWP.cond_f rfl ?_ ?_
        · exact decide_eq_false (by omega)
        refine GWP.seq ?_
        refine GWP.region ?_
        refine GOps.r rfl rfl rfl rfl (grd_move rfl rfl) ?_
        focus
          refine GOps.r rfl rfl rfl rfl (grd_indexBS (q := ?_) (L := ?_) tab_is rfl rfl rfl rfl rfl ?_ ?_ ?_) ?_
          rotate_left 2
          refine BS.ext (by assumption) ?_
          refine HExt.put ?_ ?_
          refine HExt.tr ?_ (by assumption) ?_
          refine HExt.put ?_ ?_
          refine HExt.tr ?_ (by assumption) ?_
          refine HExt.put ?_ ?_
          refine HExt.tr ?_ (by assumption) ?_
          refine HExt.put ?_ ?_
          refine HExt.tr ?_ (by assumption) ?_
          refine HExt.put ?_ ?_
          refine HExt.tr ?_ (by assumption) ?_
          refine HExt.tr ?_ (by assumption) ?_
          refine HExt.push ?_
          · exact HExt.refl _ _
          · intro _ h; cases h; done
          · simp; omega
          · exact .inr (by omega)
          · simp; omega
          · exact .inr (by omega)
          · simp; omega
          · exact .inr (by omega)
          · simp; omega
          · exact .inr (by omega)
          · simp; omega
          · exact .inr (by omega)
          · rfl
          · exact Nat.le_of_ble_eq_true rfl
        focus
          refine GOps.re rfl rfl rfl rfl (grd_loadBSK (n := ?_) (c := ?_) (L := ?_) (u := ?_) tab_is rfl rfl rfl rfl ?_ ?_ ?_) ?_
          rotate_left 4
          refine BS.ext (by assumption) ?_
          refine HExt.put ?_ ?_
          refine HExt.tr ?_ (by assumption) ?_
          refine HExt.put ?_ ?_
          refine HExt.tr ?_ (by assumption) ?_
          refine HExt.put ?_ ?_
          refine HExt.tr ?_ (by assumption) ?_
          refine HExt.put ?_ ?_
          refine HExt.tr ?_ (by assumption) ?_
          refine HExt.put ?_ ?_
          refine HExt.tr ?_ (by assumption) ?_
          refine HExt.tr ?_ (by assumption) ?_
          refine HExt.push ?_
          · exact HExt.refl _ _
          · intro _ h; cases h; done
          · simp; omega
          · exact .inr (by omega)
          · simp; omega
          · exact .inr (by omega)
          · simp; omega
          · exact .inr (by omega)
          · simp; omega
          · exact .inr (by omega)
          · simp; omega
          · exact .inr (by omega)
          · exact Nat.le_of_ble_eq_true rfl
          · simp only [List.getD_cons_zero]; rfl
        refine GOps.r rfl rfl rfl rfl (grd_eql rfl rfl rfl) ?_
        refine GOps.r rfl rfl rfl rfl (grd_move rfl rfl) ?_
        refine GOps.no rfl ?_ rfl rfl ?_
        · simp; omega
        refine GOps.no rfl ?_ rfl rfl ?_
        · simp; omega
        refine GOps.no rfl ?_ rfl rfl ?_
        · simp; omega
        refine GOps.r rfl rfl rfl rfl (grd_pick_f rfl rfl ?_ rfl) ?_
        · exact decide_eq_false (by omega)
        refine GOps.r rfl rfl rfl rfl (grd_assign rfl rfl) ?_
        refine GOps.nil ?_
        refine GWP.cond_f rfl ?_ ?_
        · with_reducible rfl
        refine GWP.skip ?_
        refine GWP.seq ?_
        refine GWP.region ?_
        refine GOps.r rfl rfl rfl rfl (grd_assign rfl rfl) ?_
        refine GOps.r rfl rfl rfl rfl (grd_assign rfl rfl) ?_
        refine GOps.nil ?_
        refine GWP.ret ?_
        refine ⟨_, .two (.one rfl) (.one rfl), ?_⟩
        refine ⟨?_, ?_⟩
        · rw [if_neg (by omega), segN, if_neg (by omega), if_neg (by omega), if_neg (by omega)]; rfl
        refine HExt.put ?_ ?_
        refine HExt.tr ?_ (by assumption) ?_
        refine HExt.put ?_ ?_
        refine HExt.tr ?_ (by assumption) ?_
        refine HExt.put ?_ ?_
        refine HExt.tr ?_ (by assumption) ?_
        refine HExt.put ?_ ?_
        refine HExt.tr ?_ (by assumption) ?_
        refine HExt.put ?_ ?_
        refine HExt.tr ?_ (by assumption) ?_
        refine HExt.tr ?_ (by assumption) ?_
        refine HExt.push ?_
        · assumption
        · intro _ h; cases h; done
        · simp; omega
        · exact .inr (by omega)
        · simp; omega
        · exact .inr (by omega)
        · simp; omega
        · exact .inr (by omega)
        · simp; omega
        · exact .inr (by omega)
        · simp; omega
        · exact .inr (by omega)
        simp only [beq_true, beq_false, Bool.not_true, Bool.not_false, Bool.not_eq_true', Bool.not_eq_false', decide_eq_true_eq, decide_eq_false_iff_not] at c6
        refine GOps.no rfl ?_ rfl rfl ?_
        · exact beq_eq_false_iff_ne.2 (by rw [decide_eq_false (by assumption)]; decide)
        refine GOps.no rfl ?_ rfl rfl ?_
        · exact beq_eq_false_iff_ne.2 (by rw [decide_eq_false (by assumption)]; decide)
        refine GOps.no rfl ?_ rfl rfl ?_
        · exact beq_eq_false_iff_ne.2 (by rw [decide_eq_false (by assumption)]; decide)
        refine GOps.r rfl rfl rfl rfl (grd_pick_f rfl rfl ?_ rfl) ?_
        · exact decide_eq_false (by assumption)
        refine GOps.r rfl rfl rfl rfl (grd_move rfl rfl) ?_
        refine GOps.no rfl ?_ rfl rfl ?_
        · simp; done
        refine GOps.no rfl ?_ rfl rfl ?_
        · simp; done
        refine GOps.no rfl ?_ rfl rfl ?_
        · simp; done
        refine GOps.r rfl rfl rfl rfl (grd_pick_f rfl rfl ?_ rfl) ?_
        · with_reducible rfl
        refine GOps.r rfl rfl rfl rfl (grd_assign rfl rfl) ?_
        refine GOps.nil ?_
        refine GWP.cond_f rfl ?_ ?_
        · with_reducible rfl
        refine GWP.skip ?_
        refine GWP.seq ?_
        refine GWP.region ?_
        focus
          refine GOps.w1 rfl rfl rfl rfl (gop_alloc' (id := ?_) ?_ tab_is rfl rfl ?_) ?_
          rotate_left 1
          · rfl
          · decide
        refine GOps.nil ?_
        refine GWP.seq ?_
        refine GWP.region ?_
        refine GOps.r rfl rfl rfl rfl (grd_move rfl rfl) ?_
        focus
          refine gops_bs rfl rfl rfl rfl (grd_slBS (l := ?_) (h := ?_) (m2 := ?_) (L := ?_) (M := ?_) tab_is rfl rfl rfl rfl ?_ ?_ ?_ ?_ ?_ ?_ ?_) ?_
          rotate_left 5
          refine BS.ext (by assumption) ?_
          refine HExt.push ?_
          · exact HExt.refl _ _
          · refine gbound_const ?_; exact rfl
          · exact rfl
          · exact Nat.le_of_ble_eq_true rfl
          · omega
          · simp; rfl
          · refine Eq.trans (List.take_of_length_le ?_) ?_; rotate_left 1; rfl; (simp; done)
        intro pc76 cc76 c76
        have c76n := BS.len c76
        focus
          refine GOps.w rfl rfl rfl rfl (gop_call rfl Try.call17 rfl ?_ (g_vopen _ _ _ _ ?_ ?_ ?_)) ?_
          · intro _ h; cases h; done
          rotate_left 1
          · assumption
          · omega
        rintro _ _ ⟨⟨gc77, pc78, cc79, rfl, lc80, rc81⟩, xc82⟩
        simp at lc80
        have xc82l := HExt.len xc82; try simp at xc82l
        have rc81g := RG.hg rc81; unfold rdBlk at rc81g
        refine GOps.r rfl rfl rfl rfl (grd_assign rfl rfl) ?_
        refine GOps.nil ?_
        refine GWP.seq ?_
        refine GWP.seq ?_
        refine GWP.region ?_
        refine GOps.r rfl rfl rfl rfl (grd_move rfl rfl) ?_
        refine GOps.nil ?_
        refine GWP.block ?_
        refine GWP.loopN 6 ?_
        refine GRounds.step ?_
        refine GWP.seq ?_
        refine GWP.region ?_
        refine GOps.r rfl rfl rfl rfl (grd_lss rfl rfl rfl) ?_
        refine GOps.nil ?_
        refine GWP.seq ?_
        refine GWP.cond_t rfl ?_ ?_
        · exact decide_eq_true (by omega)
        refine GWP.skip ?_
        refine GWP.seq ?_
        refine GWP.block ?_
        refine GWP.seq ?_
        refine GWP.region ?_
        refine GOps.r rfl rfl rfl rfl (grd_move rfl rfl) ?_
        refine GOps.r rfl rfl rfl rfl (grd_assign rfl rfl) ?_
        refine GOps.nil ?_
        refine GWP.region ?_
        refine GOps.r rfl rfl rfl rfl (grd_move rfl rfl) ?_
        refine GOps.r rfl rfl rfl rfl (grd_move rfl rfl) ?_
        focus
          refine GOps.w rfl rfl rfl rfl (gop_call rfl Try.call24 rfl ?_ (g_num _ _ h1 _ _ ?_ ?_ ?_)) ?_
          · simp [Ctx.may]; omega
          rotate_left 2
          · assumption
        rintro _ _ ⟨rfl, ⟨pc83, cc84, rc85⟩, kc86, xc87⟩
        have xc87l := HExt.len xc87; try simp at xc87l
        have rc85g := RG.hg rc85; unfold rdBlk at rc85g
        refine GOps.r rfl rfl rfl rfl (grd_conv_in tab_is rfl rfl rfl rfl rfl ?_) ?_
        · refine wrap_i64_in ?_; omega
        refine GOps.r rfl rfl rfl rfl (grd_indexAddrA1 tab_is rfl rfl rfl rfl rfl ?_) ?_
        · simp; done
        focus
          refine GOps.s rfl rfl rfl (gop_store1 (b := ?_) tab_is rfl rfl rfl rfl rfl rfl ?_ ?_ ?_ ?_) ?_
          rotate_left 1
          refine (HExt.eq (by assumption) _ ?_ ?_).trans ?_
          · omega
          · simp; omega
          refine (HExt.eq (by assumption) _ ?_ ?_).trans ?_
          · simp; done
          · intro h; cases h; done
          · exact Hp.at_push_eq
          · rfl
          · decide
          · exact .inr (by omega)
        refine GOps.nil ?_
        refine GWP.region ?_
        refine GOps.r rfl rfl rfl rfl (grd_add64 rfl rfl rfl ?_) ?_
        · omega
        refine GOps.r rfl rfl rfl rfl (grd_move rfl rfl) ?_
        refine GOps.nil ?_
        refine GRounds.step ?_
        refine GWP.seq ?_
        refine GWP.region ?_
        refine GOps.r rfl rfl rfl rfl (grd_lss rfl rfl rfl) ?_
        refine GOps.nil ?_
        refine GWP.seq ?_
        refine GWP.cond_t rfl ?_ ?_
        · exact decide_eq_true (by omega)
        refine GWP.skip ?_
        refine GWP.seq ?_
        refine GWP.block ?_
        refine GWP.seq ?_
        refine GWP.region ?_
        refine GOps.r rfl rfl rfl rfl (grd_move rfl rfl) ?_
        refine GOps.r rfl rfl rfl rfl (grd_assign rfl rfl) ?_
        refine GOps.nil ?_
        refine GWP.region ?_
        refine GOps.r rfl rfl rfl rfl (grd_move rfl rfl) ?_
        refine GOps.r rfl rfl rfl rfl (grd_move rfl rfl) ?_
        focus
          refine GOps.w rfl rfl rfl rfl (gop_call rfl Try.call24 rfl ?_ (g_num _ _ h2 _ _ ?_ ?_ ?_)) ?_
          · simp [Ctx.may]; omega
          rotate_left 2
          refine rg_ne (b := ?_) (by assumption) ?_ ?_ ?_ ?_ ?_
          rotate_left 1
          refine (HExt.eq (by assumption) _ ?_ ?_).trans ?_
          · omega
          · simp; omega
          refine (HExt.eq (by assumption) _ ?_ ?_).trans ?_
          · simp; done
          · intro h; cases h; done
          · exact Hp.at_push_eq
          · omega
          · rfl
          · simp; done
          · rfl
        rintro _ _ ⟨rfl, ⟨pc88, cc89, rc90⟩, kc91, xc92⟩
        have xc92l := HExt.len xc92; try simp at xc92l
        have rc90g := RG.hg rc90; unfold rdBlk at rc90g
        refine GOps.r rfl rfl rfl rfl (grd_conv_in tab_is rfl rfl rfl rfl rfl ?_) ?_
        · refine wrap_i64_in ?_; omega
        refine GOps.r rfl rfl rfl rfl (grd_indexAddrA1 tab_is rfl rfl rfl rfl rfl ?_) ?_
        · simp; done
        focus
          refine GOps.s rfl rfl rfl (gop_store1 (b := ?_) tab_is rfl rfl rfl rfl rfl rfl ?_ ?_ ?_ ?_) ?_
          rotate_left 1
          refine (HExt.eq (by assumption) _ ?_ ?_).trans ?_
          · simp; omega
          · simp; omega
          refine Hp.at_put_eq ?_
          · omega
          · rfl
          · exact Nat.le_of_ble_eq_true rfl
          · exact .inr (by omega)
        refine GOps.nil ?_
        refine GWP.region ?_
        refine GOps.r rfl rfl rfl rfl (grd_add64 rfl rfl rfl ?_) ?_
        · omega
        refine GOps.r rfl rfl rfl rfl (grd_move rfl rfl) ?_
        refine GOps.nil ?_
        refine GRounds.step ?_
        refine GWP.seq ?_
        refine GWP.region ?_
        refine GOps.r rfl rfl rfl rfl (grd_lss rfl rfl rfl) ?_
        refine GOps.nil ?_
        refine GWP.seq ?_
        refine GWP.cond_t rfl ?_ ?_
        · exact decide_eq_true (by omega)
        refine GWP.skip ?_
        refine GWP.seq ?_
        refine GWP.block ?_
        refine GWP.seq ?_
        refine GWP.region ?_
        refine GOps.r rfl rfl rfl rfl (grd_move rfl rfl) ?_
        refine GOps.r rfl rfl rfl rfl (grd_assign rfl rfl) ?_
        refine GOps.nil ?_
        refine GWP.region ?_
        refine GOps.r rfl rfl rfl rfl (grd_move rfl rfl) ?_
        refine GOps.r rfl rfl rfl rfl (grd_move rfl rfl) ?_
        focus
          refine GOps.w rfl rfl rfl rfl (gop_call rfl Try.call24 rfl ?_ (g_num _ _ h3 _ _ ?_ ?_ ?_)) ?_
          · simp [Ctx.may]; omega
          rotate_left 2
          refine rg_ne (b := ?_) (by assumption) ?_ ?_ ?_ ?_ ?_
          rotate_left 1
          refine (HExt.eq (by assumption) _ ?_ ?_).trans ?_
          · simp; omega
          · simp; omega
          refine Hp.at_put_eq ?_
          · omega
          · omega
          · rfl
          · simp; done
          · rfl
        rintro _ _ ⟨rfl, ⟨pc93, cc94, rc95⟩, kc96, xc97⟩
        have xc97l := HExt.len xc97; try simp at xc97l
        have rc95g := RG.hg rc95; unfold rdBlk at rc95g
        refine GOps.r rfl rfl rfl rfl (grd_conv_in tab_is rfl rfl rfl rfl rfl ?_) ?_
        · refine wrap_i64_in ?_; omega
        refine GOps.r rfl rfl rfl rfl (grd_indexAddrA1 tab_is rfl rfl rfl rfl rfl ?_) ?_
        · simp; done
        focus
          refine GOps.s rfl rfl rfl (gop_store1 (b := ?_) tab_is rfl rfl rfl rfl rfl rfl ?_ ?_ ?_ ?_) ?_
          rotate_left 1
          refine (HExt.eq (by assumption) _ ?_ ?_).trans ?_
          · simp; omega
          · simp; omega
          refine Hp.at_put_eq ?_
          · omega
          · rfl
          · exact Nat.le_of_ble_eq_true rfl
          · exact .inr (by omega)
        refine GOps.nil ?_
        refine GWP.region ?_
        refine GOps.r rfl rfl rfl rfl (grd_add64 rfl rfl rfl ?_) ?_
        · omega
        refine GOps.r rfl rfl rfl rfl (grd_move rfl rfl) ?_
        refine GOps.nil ?_
        refine GRounds.step ?_
        refine GWP.seq ?_
        refine GWP.region ?_
        refine GOps.r rfl rfl rfl rfl (grd_lss rfl rfl rfl) ?_
        refine GOps.nil ?_
        refine GWP.seq ?_
        refine GWP.cond_t rfl ?_ ?_
        · exact decide_eq_true (by omega)
        refine GWP.skip ?_
        refine GWP.seq ?_
        refine GWP.block ?_
        refine GWP.seq ?_
        refine GWP.region ?_
        refine GOps.r rfl rfl rfl rfl (grd_move rfl rfl) ?_
        refine GOps.r rfl rfl rfl rfl (grd_assign rfl rfl) ?_
        refine GOps.nil ?_
        refine GWP.region ?_
        refine GOps.r rfl rfl rfl rfl (grd_move rfl rfl) ?_
        refine GOps.r rfl rfl rfl rfl (grd_move rfl rfl) ?_
        focus
          refine GOps.w rfl rfl rfl rfl (gop_call rfl Try.call24 rfl ?_ (g_num _ _ h4 _ _ ?_ ?_ ?_)) ?_
          · simp [Ctx.may]; omega
          rotate_left 2
          refine rg_ne (b := ?_) (by assumption) ?_ ?_ ?_ ?_ ?_
          rotate_left 1
          refine (HExt.eq (by assumption) _ ?_ ?_).trans ?_
          · simp; omega
          · simp; omega
          refine Hp.at_put_eq ?_
          · omega
          · omega
          · rfl
          · simp; done
          · rfl
        rintro _ _ ⟨rfl, ⟨pc98, cc99, rc100⟩, kc101, xc102⟩
        have xc102l := HExt.len xc102; try simp at xc102l
        have rc100g := RG.hg rc100; unfold rdBlk at rc100g
        refine GOps.r rfl rfl rfl rfl (grd_conv_in tab_is rfl rfl rfl rfl rfl ?_) ?_
        · refine wrap_i64_in ?_; omega
        refine GOps.r rfl rfl rfl rfl (grd_indexAddrA1 tab_is rfl rfl rfl rfl rfl ?_) ?_
        · simp; done
        focus
          refine GOps.s rfl rfl rfl (gop_store1 (b := ?_) tab_is rfl rfl rfl rfl rfl rfl ?_ ?_ ?_ ?_) ?_
          rotate_left 1
          refine (HExt.eq (by assumption) _ ?_ ?_).trans ?_
          · simp; omega
          · simp; omega
          refine Hp.at_put_eq ?_
          · omega
          · rfl
          · exact Nat.le_of_ble_eq_true rfl
          · exact .inr (by omega)
        refine GOps.nil ?_
        refine GWP.region ?_
        refine GOps.r rfl rfl rfl rfl (grd_add64 rfl rfl rfl ?_) ?_
        · omega
        refine GOps.r rfl rfl rfl rfl (grd_move rfl rfl) ?_
        refine GOps.nil ?_
        refine GRounds.step ?_
        refine GWP.seq ?_
        refine GWP.region ?_
        refine GOps.r rfl rfl rfl rfl (grd_lss rfl rfl rfl) ?_
        refine GOps.nil ?_
        refine GWP.seq ?_
        refine GWP.cond_t rfl ?_ ?_
        · exact decide_eq_true (by omega)
        refine GWP.skip ?_
        refine GWP.seq ?_
        refine GWP.block ?_
        refine GWP.seq ?_
        refine GWP.region ?_
        refine GOps.r rfl rfl rfl rfl (grd_move rfl rfl) ?_
        refine GOps.r rfl rfl rfl rfl (grd_assign rfl rfl) ?_
        refine GOps.nil ?_
        refine GWP.region ?_
        refine GOps.r rfl rfl rfl rfl (grd_move rfl rfl) ?_
        refine GOps.r rfl rfl rfl rfl (grd_move rfl rfl) ?_
        focus
          refine GOps.w rfl rfl rfl rfl (gop_call rfl Try.call24 rfl ?_ (g_num _ _ h5 _ _ ?_ ?_ ?_)) ?_
          · simp [Ctx.may]; omega
          rotate_left 2
          refine rg_ne (b := ?_) (by assumption) ?_ ?_ ?_ ?_ ?_
          rotate_left 1
          refine (HExt.eq (by assumption) _ ?_ ?_).trans ?_
          · simp; omega
          · simp; omega
          refine Hp.at_put_eq ?_
          · omega
          · omega
          · rfl
          · simp; done
          · rfl
        rintro _ _ ⟨rfl, ⟨pc103, cc104, rc105⟩, kc106, xc107⟩
        have xc107l := HExt.len xc107; try simp at xc107l
        have rc105g := RG.hg rc105; unfold rdBlk at rc105g
        refine GOps.r rfl rfl rfl rfl (grd_conv_in tab_is rfl rfl rfl rfl rfl ?_) ?_
        · refine wrap_i64_in ?_; omega
        refine GOps.r rfl rfl rfl rfl (grd_indexAddrA1 tab_is rfl rfl rfl rfl rfl ?_) ?_
        · simp; done
        focus
          refine GOps.s rfl rfl rfl (gop_store1 (b := ?_) tab_is rfl rfl rfl rfl rfl rfl ?_ ?_ ?_ ?_) ?_
          rotate_left 1
          refine (HExt.eq (by assumption) _ ?_ ?_).trans ?_
          · simp; omega
          · simp; omega
          refine Hp.at_put_eq ?_
          · omega
          · rfl
          · exact Nat.le_of_ble_eq_true rfl
          · exact .inr (by omega)
        refine GOps.nil ?_
        refine GWP.region ?_
        refine GOps.r rfl rfl rfl rfl (grd_add64 rfl rfl rfl ?_) ?_
        · omega
        refine GOps.r rfl rfl rfl rfl (grd_move rfl rfl) ?_
        refine GOps.nil ?_
        refine GRounds.step ?_
        refine GWP.seq ?_
        refine GWP.region ?_
        refine GOps.r rfl rfl rfl rfl (grd_lss rfl rfl rfl) ?_
        refine GOps.nil ?_
        refine GWP.seq ?_
        refine GWP.cond_f rfl ?_ ?_
        · exact decide_eq_false (by omega)
        refine GWP.exit ?_
        refine GWP.seq ?_
        refine GWP.block ?_
        refine GWP.seq ?_
        refine GWP.region ?_
        refine GOps.r rfl rfl rfl rfl (grd_move rfl rfl) ?_
        focus
          refine GOps.w1 rfl rfl rfl rfl (gop_call rfl Try.call25 rfl ?_ (g_end _ _ ?_ ?_ ?_ ?_)) ?_
          · intro _ h; cases h; done
          rotate_left 3
          refine rg_ne (b := ?_) (by assumption) ?_ ?_ ?_ ?_ ?_
          rotate_left 1
          refine (HExt.eq (by assumption) _ ?_ ?_).trans ?_
          · simp; omega
          · simp; omega
          refine Hp.at_put_eq ?_
          · omega
          · omega
          · rfl
          · simp; done
          · rfl
        refine GOps.r rfl rfl rfl rfl (grd_neq rfl rfl rfl) ?_
        refine GOps.r rfl rfl rfl rfl (grd_assign rfl rfl) ?_
        refine GOps.nil ?_
        refine GWP.cond rfl (fun c108 => ?_) (fun c108 => ?_)
        simp only [beq_true, beq_false, Bool.not_true, Bool.not_false, Bool.not_eq_true', Bool.not_eq_false', decide_eq_true_eq, decide_eq_false_iff_not] at c108
        refine GWP.skip ?_
        refine GWP.seq ?_
        refine GWP.region ?_
        refine GOps.r rfl rfl rfl rfl (grd_assign rfl rfl) ?_
        refine GOps.r rfl rfl rfl rfl (grd_assign rfl rfl) ?_
        refine GOps.nil ?_
        refine GWP.ret ?_
        refine ⟨_, .two (.one rfl) (.one rfl), ?_⟩
        refine ⟨?_, ?_⟩
        · rw [if_neg (by omega), segN, if_pos (by omega)]; rfl
        refine HExt.put ?_ ?_
        refine HExt.tr ?_ (by assumption) ?_
        refine HExt.put ?_ ?_
        refine HExt.tr ?_ (by assumption) ?_
        refine HExt.put ?_ ?_
        refine HExt.tr ?_ (by assumption) ?_
        refine HExt.put ?_ ?_
        refine HExt.tr ?_ (by assumption) ?_
        refine HExt.put ?_ ?_
        refine HExt.tr ?_ (by assumption) ?_
        refine HExt.tr ?_ (by assumption) ?_
        refine HExt.push ?_
        · assumption
        · intro _ h; cases h; done
        · simp; omega
        · exact .inr (by omega)
        · simp; omega
        · exact .inr (by omega)
        · simp; omega
        · exact .inr (by omega)
        · simp; omega
        · exact .inr (by omega)
        · simp; omega
        · exact .inr (by omega)
        simp only [beq_true, beq_false, Bool.not_true, Bool.not_false, Bool.not_eq_true', Bool.not_eq_false', decide_eq_true_eq, decide_eq_false_iff_not] at c108
        refine GWP.seq ?_
        refine GWP.region ?_
        refine GOps.r rfl rfl rfl rfl (grd_move rfl rfl) ?_
        focus
          refine GOps.r rfl rfl rfl rfl (grd_indexBS (q := ?_) (L := ?_) tab_is rfl rfl rfl rfl rfl ?_ ?_ ?_) ?_
          rotate_left 2
          refine BS.ext (by assumption) ?_
          refine HExt.put ?_ ?_
          refine HExt.tr ?_ (by assumption) ?_
          refine HExt.put ?_ ?_
          refine HExt.tr ?_ (by assumption) ?_
          refine HExt.put ?_ ?_
          refine HExt.tr ?_ (by assumption) ?_
          refine HExt.put ?_ ?_
          refine HExt.tr ?_ (by assumption) ?_
          refine HExt.put ?_ ?_
          refine HExt.tr ?_ (by assumption) ?_
          refine HExt.tr ?_ (by assumption) ?_
          refine HExt.push ?_
          · exact HExt.refl _ _
          · intro _ h; cases h; done
          · simp; omega
          · exact .inr (by omega)
          · simp; omega
          · exact .inr (by omega)
          · simp; omega
          · exact .inr (by omega)
          · simp; omega
          · exact .inr (by omega)
          · simp; omega
          · exact .inr (by omega)
          · rfl
          · exact Nat.le_of_ble_eq_true rfl
        focus
          refine GOps.re rfl rfl rfl rfl (grd_loadBSK (n := ?_) (c := ?_) (L := ?_) (u := ?_) tab_is rfl rfl rfl rfl ?_ ?_ ?_) ?_
          rotate_left 4
          refine BS.ext (by assumption) ?_
          refine HExt.put ?_ ?_
          refine HExt.tr ?_ (by assumption) ?_
          refine HExt.put ?_ ?_
          refine HExt.tr ?_ (by assumption) ?_
          refine HExt.put ?_ ?_
          refine HExt.tr ?_ (by assumption) ?_
          refine HExt.put ?_ ?_
          refine HExt.tr ?_ (by assumption) ?_
          refine HExt.put ?_ ?_
          refine HExt.tr ?_ (by assumption) ?_
          refine HExt.tr ?_ (by assumption) ?_
          refine HExt.push ?_
          · exact HExt.refl _ _
          · intro _ h; cases h; done
          · simp; omega
          · exact .inr (by omega)
          · simp; omega
          · exact .inr (by omega)
          · simp; omega
          · exact .inr (by omega)
          · simp; omega
          · exact .inr (by omega)
          · simp; omega
          · exact .inr (by omega)
          · exact Nat.le_of_ble_eq_true rfl
          · simp only [List.getD_cons_zero]; rfl
        refine GOps.r rfl rfl rfl rfl (grd_eql rfl rfl rfl) ?_
        refine GOps.r rfl rfl rfl rfl (grd_assign rfl rfl) ?_
        refine GOps.nil ?_
        refine GWP.cond rfl (fun c109 => ?_) (fun c109 => ?_)
        simp only [beq_true, beq_false, Bool.not_true, Bool.not_false, Bool.not_eq_true', Bool.not_eq_false', decide_eq_true_eq, decide_eq_false_iff_not] at c109
        refine GWP.seq ?_
        refine GWP.region ?_
        refine GOps.r rfl rfl rfl rfl (grd_indexAddrA1 tab_is rfl rfl rfl rfl rfl ?_) ?_
        · simp; done
        focus
          refine GOps.r rfl rfl rfl rfl (grd_load1 (b := ?_) (v := ?_) tab_is rfl rfl rfl rfl ?_ ?_) ?_
          rotate_left 2
          refine Hp.at_put_eq ?_
          · omega
          · rfl
        refine GOps.r rfl rfl rfl rfl (grd_indexAddrA1 tab_is rfl rfl rfl rfl rfl ?_) ?_
        · simp; done
        focus
          refine GOps.r rfl rfl rfl rfl (grd_load1 (b := ?_) (v := ?_) tab_is rfl rfl rfl rfl ?_ ?_) ?_
          rotate_left 2
          refine Hp.at_put_eq ?_
          · omega
          · rfl
        refine GOps.r rfl rfl rfl rfl (grd_indexAddrA1 tab_is rfl rfl rfl rfl rfl ?_) ?_
        · simp; done
        focus
          refine GOps.r rfl rfl rfl rfl (grd_load1 (b := ?_) (v := ?_) tab_is rfl rfl rfl rfl ?_ ?_) ?_
          rotate_left 2
          refine Hp.at_put_eq ?_
          · omega
          · rfl
        refine GOps.r rfl rfl rfl rfl (grd_indexAddrA1 tab_is rfl rfl rfl rfl rfl ?_) ?_
        · simp; done
        focus
          refine GOps.r rfl rfl rfl rfl (grd_load1 (b := ?_) (v := ?_) tab_is rfl rfl rfl rfl ?_ ?_) ?_
          rotate_left 2
          refine Hp.at_put_eq ?_
          · omega
          · rfl
        refine GOps.r rfl rfl rfl rfl (grd_indexAddrA1 tab_is rfl rfl rfl rfl rfl ?_) ?_
        · simp; done
        focus
          refine GOps.r rfl rfl rfl rfl (grd_load1 (b := ?_) (v := ?_) tab_is rfl rfl rfl rfl ?_ ?_) ?_
          rotate_left 2
          refine Hp.at_put_eq ?_
          · omega
          · rfl
        focus
          refine GOps.r rfl rfl rfl rfl (grd_build (cs := ?_) tab_is rfl rfl rfl ?_ rfl ?_) ?_
          rotate_left 1
          · decide
          · simp [gfill, gsets, Value.cells]; rfl
        refine GOps.r rfl rfl rfl rfl (grd_mkI tab_is rfl rfl rfl rfl) ?_
        refine GOps.r rfl rfl rfl rfl (grd_assign rfl rfl) ?_
        refine GOps.r rfl rfl rfl rfl (grd_assign rfl rfl) ?_
        refine GOps.nil ?_
        refine GWP.ret ?_
        refine ⟨_, .two (.one rfl) (.one rfl), ?_⟩
        refine ⟨?_, ?_⟩
        · rw [if_neg (by omega), segN, if_neg (by omega), if_pos (by omega)]; rfl
        refine HExt.put ?_ ?_
        refine HExt.tr ?_ (by assumption) ?_
        refine HExt.put ?_ ?_
        refine HExt.tr ?_ (by assumption) ?_
        refine HExt.put ?_ ?_
        refine HExt.tr ?_ (by assumption) ?_
        refine HExt.put ?_ ?_
        refine HExt.tr ?_ (by assumption) ?_
        refine HExt.put ?_ ?_
        refine HExt.tr ?_ (by assumption) ?_
        refine HExt.tr ?_ (by assumption) ?_
        refine HExt.push ?_
        · assumption
        · intro _ h; cases h; done
        · simp; omega
        · exact .inr (by omega)
        · simp; omega
        · exact .inr (by omega)
        · simp; omega
        · exact .inr (by omega)
        · simp; omega
        · exact .inr (by omega)
        · simp; omega
        · exact .inr (by omega)
        simp only [beq_true, beq_false, Bool.not_true, Bool.not_false, Bool.not_eq_true', Bool.not_eq_false', decide_eq_true_eq, decide_eq_false_iff_not] at c109
        refine GWP.seq ?_
        refine GWP.region ?_
        refine GOps.r rfl rfl rfl rfl (grd_move rfl rfl) ?_
        focus
          refine GOps.r rfl rfl rfl rfl (grd_indexBS (q := ?_) (L := ?_) tab_is rfl rfl rfl rfl rfl ?_ ?_ ?_) ?_
          rotate_left 2
          refine BS.ext (by assumption) ?_
          refine HExt.put ?_ ?_
          refine HExt.tr ?_ (by assumption) ?_
          refine HExt.put ?_ ?_
          refine HExt.tr ?_ (by assumption) ?_
          refine HExt.put ?_ ?_
          refine HExt.tr ?_ (by assumption) ?_
          refine HExt.put ?_ ?_
          refine HExt.tr ?_ (by assumption) ?_
          refine HExt.put ?_ ?_
          refine HExt.tr ?_ (by assumption) ?_
          refine HExt.tr ?_ (by assumption) ?_
          refine HExt.push ?_
          · exact HExt.refl _ _
          · intro _ h; cases h; done
          · simp; omega
          · exact .inr (by omega)
          · simp; omega
          · exact .inr (by omega)
          · simp; omega
          · exact .inr (by omega)
          · simp; omega
          · exact .inr (by omega)
          · simp; omega
          · exact .inr (by omega)
          · rfl
          · exact Nat.le_of_ble_eq_true rfl
        focus
          refine GOps.re rfl rfl rfl rfl (grd_loadBSK (n := ?_) (c := ?_) (L := ?_) (u := ?_) tab_is rfl rfl rfl rfl ?_ ?_ ?_) ?_
          rotate_left 4
          refine BS.ext (by assumption) ?_
          refine HExt.put ?_ ?_
          refine HExt.tr ?_ (by assumption) ?_
          refine HExt.put ?_ ?_
          refine HExt.tr ?_ (by assumption) ?_
          refine HExt.put ?_ ?_
          refine HExt.tr ?_ (by assumption) ?_
          refine HExt.put ?_ ?_
          refine HExt.tr ?_ (by assumption) ?_
          refine HExt.put ?_ ?_
          refine HExt.tr ?_ (by assumption) ?_
          refine HExt.tr ?_ (by assumption) ?_
          refine HExt.push ?_
          · exact HExt.refl _ _
          · intro _ h; cases h; done
          · simp; omega
          · exact .inr (by omega)
          · simp; omega
          · exact .inr (by omega)
          · simp; omega
          · exact .inr (by omega)
          · simp; omega
          · exact .inr (by omega)
          · simp; omega
          · exact .inr (by omega)
          · exact Nat.le_of_ble_eq_true rfl
          · simp only [List.getD_cons_zero]; rfl
        refine GOps.r rfl rfl rfl rfl (grd_eql rfl rfl rfl) ?_
        refine GOps.r rfl rfl rfl rfl (grd_move rfl rfl) ?_
        refine GOps.split rfl rfl (fun c110 => ?_) (fun c110 => ?_)
        simp only [beq_true, beq_false, Bool.not_true, Bool.not_false, Bool.not_eq_true', Bool.not_eq_false', decide_eq_true_eq, decide_eq_false_iff_not] at c110
        refine GOps.take rfl rfl ?_ ?_
        · exact beq_iff_eq.2 (decide_eq_true (by assumption))
        refine GOps.r rfl rfl rfl rfl (grd_indexAddrA1 tab_is rfl rfl rfl rfl rfl ?_) ?_
        · simp; done
        refine GOps.take rfl rfl ?_ ?_
        · exact beq_iff_eq.2 (decide_eq_true (by assumption))
        focus
          refine GOps.r rfl rfl rfl rfl (grd_load1 (b := ?_) (v := ?_) tab_is rfl rfl rfl rfl ?_ ?_) ?_
          rotate_left 2
          refine Hp.at_put_eq ?_
          · omega
          · rfl
        refine GOps.take rfl rfl ?_ ?_
        · exact beq_iff_eq.2 (decide_eq_true (by assumption))
        refine GOps.r rfl rfl rfl rfl (grd_leq rfl rfl rfl) ?_
        refine GOps.r rfl rfl rfl rfl (grd_pick_t rfl rfl ?_ rfl) ?_
        · exact decide_eq_true (by assumption)
        refine GOps.r rfl rfl rfl rfl (grd_assign rfl rfl) ?_
        refine GOps.nil ?_
        refine GWP.cond rfl (fun c111 => ?_) (fun c111 => ?_)
        simp only [beq_true, beq_false, Bool.not_true, Bool.not_false, Bool.not_eq_true', Bool.not_eq_false', decide_eq_true_eq, decide_eq_false_iff_not] at c111
        refine GWP.seq ?_
        refine GWP.region ?_
        refine GOps.r rfl rfl rfl rfl (grd_indexAddrA1 tab_is rfl rfl rfl rfl rfl ?_) ?_
        · simp; done
        focus
          refine GOps.r rfl rfl rfl rfl (grd_load1 (b := ?_) (v := ?_) tab_is rfl rfl rfl rfl ?_ ?_) ?_
          rotate_left 2
          refine Hp.at_put_eq ?_
          · omega
          · rfl
        refine GOps.r rfl rfl rfl rfl (grd_indexAddrA1 tab_is rfl rfl rfl rfl rfl ?_) ?_
        · simp; done
        focus
          refine GOps.r rfl rfl rfl rfl (grd_load1 (b := ?_) (v := ?_) tab_is rfl rfl rfl rfl ?_ ?_) ?_
          rotate_left 2
          refine Hp.at_put_eq ?_
          · omega
          · rfl
        refine GOps.r rfl rfl rfl rfl (grd_indexAddrA1 tab_is rfl rfl rfl rfl rfl ?_) ?_
        · simp; done
        focus
          refine GOps.r rfl rfl rfl rfl (grd_load1 (b := ?_) (v := ?_) tab_is rfl rfl rfl rfl ?_ ?_) ?_
          rotate_left 2
          refine Hp.at_put_eq ?_
          · omega
          · rfl
        refine GOps.r rfl rfl rfl rfl (grd_indexAddrA1 tab_is rfl rfl rfl rfl rfl ?_) ?_
        · simp; done
        focus
          refine GOps.r rfl rfl rfl rfl (grd_load1 (b := ?_) (v := ?_) tab_is rfl rfl rfl rfl ?_ ?_) ?_
          rotate_left 2
          refine Hp.at_put_eq ?_
          · omega
          · rfl
        refine GOps.r rfl rfl rfl rfl (grd_indexAddrA1 tab_is rfl rfl rfl rfl rfl ?_) ?_
        · simp; done
        focus
          refine GOps.r rfl rfl rfl rfl (grd_load1 (b := ?_) (v := ?_) tab_is rfl rfl rfl rfl ?_ ?_) ?_
          rotate_left 2
          refine Hp.at_put_eq ?_
          · omega
          · rfl
        refine GOps.r rfl rfl rfl rfl (grd_eql rfl rfl rfl) ?_
        focus
          refine GOps.r rfl rfl rfl rfl (grd_build (cs := ?_) tab_is rfl rfl rfl ?_ rfl ?_) ?_
          rotate_left 1
          · decide
          · simp [gfill, gsets, Value.cells]; rfl
        refine GOps.r rfl rfl rfl rfl (grd_mkI tab_is rfl rfl rfl rfl) ?_
        refine GOps.r rfl rfl rfl rfl (grd_assign rfl rfl) ?_
        refine GOps.r rfl rfl rfl rfl (grd_assign rfl rfl) ?_
        refine GOps.nil ?_
        refine GWP.ret ?_
        refine ⟨_, .two (.one rfl) (.one rfl), ?_⟩
        refine ⟨?_, ?_⟩
        rotate_left 1
        refine HExt.put ?_ ?_
        refine HExt.tr ?_ (by assumption) ?_
        refine HExt.put ?_ ?_
        refine HExt.tr ?_ (by assumption) ?_
        refine HExt.put ?_ ?_
        refine HExt.tr ?_ (by assumption) ?_
        refine HExt.put ?_ ?_
        refine HExt.tr ?_ (by assumption) ?_
        refine HExt.put ?_ ?_
        refine HExt.tr ?_ (by assumption) ?_
        refine HExt.tr ?_ (by assumption) ?_
        refine HExt.push ?_
        · assumption
        · intro _ h; cases h; done
        · simp; omega
        · exact .inr (by omega)
        · simp; omega
        · exact .inr (by omega)
        · simp; omega
        · exact .inr (by omega)
        · simp; omega
        · exact .inr (by omega)
        · simp; omega
        · exact .inr (by omega)
        simp only [beq_true, beq_false, Bool.not_true, Bool.not_false, Bool.not_eq_true', Bool.not_eq_false', decide_eq_true_eq, decide_eq_false_iff_not] at c111
        refine GWP.skip ?_
        refine GWP.seq ?_
        refine GWP.region ?_
        refine GOps.r rfl rfl rfl rfl (grd_assign rfl rfl) ?_
        refine GOps.r rfl rfl rfl rfl (grd_assign rfl rfl) ?_
        refine GOps.nil ?_
        refine GWP.ret ?_
        refine ⟨_, .two (.one rfl) (.one rfl), ?_⟩
        refine ⟨?_, ?_⟩
        · rw [if_neg (by omega), segN, if_neg (by omega), if_neg (by omega), if_neg (by omega)]; rfl
        refine HExt.put ?_ ?_
        refine HExt.tr ?_ (by assumption) ?_
        refine HExt.put ?_ ?_
        refine HExt.tr ?_ (by assumption) ?_
        refine HExt.put ?_ ?_
        refine HExt.tr ?_ (by assumption) ?_
        refine HExt.put ?_ ?_
        refine HExt.tr ?_ (by assumption) ?_
        refine HExt.put ?_ ?_
        refine HExt.tr ?_ (by assumption) ?_
        refine HExt.tr ?_ (by assumption) ?_
        refine HExt.push ?_
        · assumption
        · intro _ h; cases h; done
        · simp; omega
        · exact .inr (by omega)
        · simp; omega
        · exact .inr (by omega)
        · simp; omega
        · exact .inr (by omega)
        · simp; omega
        · exact .inr (by omega)
        · simp; omega
        · exact .inr (by omega)
        simp only [beq_true, beq_false, Bool.not_true, Bool.not_false, Bool.not_eq_true', Bool.not_eq_false', decide_eq_true_eq, decide_eq_false_iff_not] at c110
        refine GOps.no rfl ?_ rfl rfl ?_
        · exact beq_eq_false_iff_ne.2 (by rw [decide_eq_false (by assumption)]; decide)
        refine GOps.no rfl ?_ rfl rfl ?_
        · exact beq_eq_false_iff_ne.2 (by rw [decide_eq_false (by assumption)]; decide)
        refine GOps.no rfl ?_ rfl rfl ?_
        · exact beq_eq_false_iff_ne.2 (by rw [decide_eq_false (by assumption)]; decide)
        refine GOps.r rfl rfl rfl rfl (grd_pick_f rfl rfl ?_ rfl) ?_
        · exact decide_eq_false (by assumption)
        refine GOps.r rfl rfl rfl rfl (grd_assign rfl rfl) ?_
        refine GOps.nil ?_
        refine GWP.cond_f rfl ?_ ?_
        · with_reducible rfl
        refine GWP.skip ?_
        refine GWP.seq ?_
        refine GWP.region ?_
        refine GOps.r rfl rfl rfl rfl (grd_assign rfl rfl) ?_
        refine GOps.r rfl rfl rfl rfl (grd_assign rfl rfl) ?_
        refine GOps.nil ?_
        refine GWP.ret ?_
        refine ⟨_, .two (.one rfl) (.one rfl), ?_⟩
        refine ⟨?_, ?_⟩
        · rw [if_neg (by omega), segN, if_neg (by omega), if_neg (by omega), if_neg (by omega)]; rfl
        refine HExt.put ?_ ?_
        refine HExt.tr ?_ (by assumption) ?_
        refine HExt.put ?_ ?_
        refine HExt.tr ?_ (by assumption) ?_
        refine HExt.put ?_ ?_
        refine HExt.tr ?_ (by assumption) ?_
        refine HExt.put ?_ ?_
        refine HExt.tr ?_ (by assumption) ?_
        refine HExt.put ?_ ?_
        refine HExt.tr ?_ (by assumption) ?_
        refine HExt.tr ?_ (by assumption) ?_
        refine HExt.push ?_
        · assumption
        · intro _ h; cases h; done
        · simp; omega
        · exact .inr (by omega)
        · simp; omega
        · exact .inr (by omega)
        · simp; omega
        · exact .inr (by omega)
        · simp; omega
        · exact .inr (by omega)
        · simp; omega
        · exact .inr (by omega)
      have hd : decide ((r5.1 : Int) = 1) = decide (r5.1 = 1) := by rw [decide_eq_decide]; omega
      rw [hd, if_neg (by omega), segN, if_neg (by omega), if_neg (by omega), if_pos ⟨by omega, by omega⟩]
      rfl
end Go.Proofs.Ytjlimdiimdihfaa
