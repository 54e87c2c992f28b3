/- Records, alike or not: the law. -/
import Derived.Test.YtjlimdiimdihfaaRa
import Derived.Test.YtjlimdiimdihfaaMz
import Derived.Test.YtjlimdiimdihfaaAr
namespace Go.Proofs.Ytjlimdiimdihfaa
open Go.RowKit Go.ChangeShapes Go.WideShapes Go.ChangeAt

theorem lives12 : comesTo ft noS tab 100000 12 [] (.bool true) = true := by kernel_rfl
set_option maxHeartbeats 4000000 in
set_option maxRecDepth 100000 in
set_option linter.unusedSimpArgs false in
theorem g_lives12 (H : Hp) : GCalls Try.prog 12 [] [] H (fun v H' => v = .bool true ∧ H' = H) := comesTo_any tab_is mix ft_ok (noS_ok _) lives12 H
set_option maxHeartbeats 4000000 in
set_option maxRecDepth 100000 in
set_option linter.unusedSimpArgs false in
theorem g_recordSame (H : Hp) (r q : RecS) (p1 p2 : Option Addr) (m n cm cn : Nat) (hL : BS H (.slice p1 m cm) r.blocks) (hM : BS H (.slice p2 n cn) q.blocks) :
    GCalls Try.prog 6 [.agg #[.int .u8 r.kind, .int .i64 r.id, .int .i64 r.base, .int .i64 r.fr, .int .i64 r.to, .slice p1 m cm, .int .i64 r.count, .int .u64 r.len, .int .u64 r.sum], .agg #[.int .u8 q.kind, .int .i64 q.id, .int .i64 q.base, .int .i64 q.fr, .int .i64 q.to, .slice p2 n cn, .int .i64 q.count, .int .u64 q.len, .int .u64 q.sum]] [] H fun v _ => v = .bool true := by
  refine GCalls.body tab_is Try.func6 rfl Try.results6 Try.ntmps6 (by simp) ?_ ?_
  · first | (intro _ h; cases h; done) | (simp; done) | (simp; omega) | (intro i hi; simp at hi; rcases hi with rfl | rfl <;> omega) | (intro i hi; simp at hi; rcases hi with rfl | rfl | rfl <;> omega)
  focus
    refine GWP.seq ?_
    refine GWP.region ?_
    focus
      refine GOps.w1 rfl rfl rfl rfl (gop_box' (id := ?_) ?_ rfl rfl rfl) ?_
      rotate_left 1
      · rfl
    focus
      refine GOps.w1 rfl rfl rfl rfl (gop_box' (id := ?_) ?_ rfl rfl rfl) ?_
      rotate_left 1
      · simp; rfl
    refine GOps.r rfl rfl rfl rfl (grd_assign rfl rfl) ?_
    refine GOps.nil ?_
    refine GWP.seq ?_
    refine GWP.seq ?_
    refine GWP.region ?_
    refine GOps.w1 rfl rfl rfl rfl (gop_call0 (f := 12) rfl Try.call12 ?_ (g_lives12 _)) ?_
    · intro _ h; cases h; done
    refine GOps.r rfl rfl rfl rfl (grd_not rfl rfl) ?_
    refine GOps.nil ?_
    refine GWP.cond_f rfl ?_ ?_
    · simp; done
    refine GWP.skip ?_
    refine GWP.seq ?_
    refine GWP.draw [.reads [0, 1, 3, 5], .write 2, .write 4, .write 6, .reads [7, 8, 9, 10, 11], .write 12, .reads [13, 14]] false [List.length H + 1, List.length H] (by kernel_rfl) (by kernel_rfl) (by kernel_rfl) (by kernel_rfl) ?_ ?_
    · simp; omega
    refine GPcs.reads (by simp only [List.filterMap_cons, List.filterMap_nil, List.getElem?_toArray, List.getElem?_cons_succ, List.getElem?_cons_zero]; rfl) ?_
    focus
      refine GQ.r rfl rfl rfl rfl (grd_loadNK (b := ?_) (cs := ?_) tab_is rfl rfl rfl rfl ?_ ?_ ?_) ?_ ?_
      rotate_left 2
      refine (Hp.at_push_lt ?_).trans ?_
      · simp; done
      · exact Hp.at_push_eq
      · exact Nat.le_of_ble_eq_true rfl
      · simp [Value.cells]; rfl
      · refine .inr ?_; simp
    focus
      refine GQ.r rfl rfl rfl rfl (grd_loadNK (b := ?_) (cs := ?_) tab_is rfl rfl rfl rfl ?_ ?_ ?_) ?_ ?_
      rotate_left 2
      refine Hp.at_push_id ?_
      · simp; done
      · exact Nat.le_of_ble_eq_true rfl
      · simp [Value.cells]; rfl
      · refine .inr ?_; simp
    focus
      refine GQ.r rfl rfl rfl rfl (grd_loadNK (b := ?_) (cs := ?_) tab_is rfl rfl rfl rfl ?_ ?_ ?_) ?_ ?_
      rotate_left 2
      refine (Hp.at_push_lt ?_).trans ?_
      · simp; done
      · exact Hp.at_push_eq
      · exact Nat.le_of_ble_eq_true rfl
      · simp [Value.cells]; rfl
      · refine .inr ?_; simp
    focus
      refine GQ.r rfl rfl rfl rfl (grd_loadNK (b := ?_) (cs := ?_) tab_is rfl rfl rfl rfl ?_ ?_ ?_) ?_ ?_
      rotate_left 2
      refine Hp.at_push_id ?_
      · simp; done
      · exact Nat.le_of_ble_eq_true rfl
      · simp [Value.cells]; rfl
      · refine .inr ?_; simp
    refine GQ.nil ?_
    refine GPcs.write false [List.length H + 1, List.length H] rfl rfl ?_ rfl rfl (gopf_call rfl Try.call19 rfl ?_ (g_rsame _ _ _ _ _ _ _ _ _ ?_ ?_)) rfl ?_ ?_ ?_ ?_
    · with_reducible rfl
    · intro _ h; cases h; done
    refine BS.ext (by assumption) ?_
    refine HExt.push ?_
    refine HExt.push ?_
    · exact HExt.refl _ _
    refine BS.ext (by assumption) ?_
    refine HExt.push ?_
    refine HExt.push ?_
    · exact HExt.refl _ _
    · intro _ h; cases h; done
    focus
      refine List.forall_mem_cons.2 ⟨⟨⟨?_, ?_⟩, ?_⟩, ?_⟩
      rotate_left 1
      refine Hp.at_push_id ?_
      · simp; done
      · intro h; cases h; done
      focus
        refine List.forall_mem_cons.2 ⟨⟨⟨?_, ?_⟩, ?_⟩, ?_⟩
        rotate_left 1
        refine (Hp.at_push_lt ?_).trans ?_
        · simp; done
        · exact Hp.at_push_eq
        · intro h; cases h; done
        · intro _ h; cases h; done
    · simp; done
    rintro _ _ ⟨rfl, xa1⟩
    have xa1l := HExt.len xa1; try simp at xa1l
    refine ⟨?_, ?_⟩
    · simp; omega
    refine GPcs.write false [List.length H + 1, List.length H] rfl rfl ?_ rfl rfl (gopf_call rfl Try.call13 rfl ?_ (g_rplain _ _ _ _ _ ?_)) rfl ?_ ?_ ?_ ?_
    · with_reducible rfl
    · intro _ h; cases h; done
    refine BS.ext (by assumption) ?_
    refine HExt.tr ?_ (by assumption) ?_
    refine HExt.push ?_
    refine HExt.push ?_
    · exact HExt.refl _ _
    · intro _ h; cases h; done
    · intro _ h; cases h; done
    focus
      refine List.forall_mem_cons.2 ⟨⟨⟨?_, ?_⟩, ?_⟩, ?_⟩
      rotate_left 1
      refine (HExt.eq (by assumption) _ ?_ ?_).trans ?_
      · simp; done
      · intro h; cases h; done
      refine Hp.at_push_id ?_
      · simp; done
      · intro h; cases h; done
      focus
        refine List.forall_mem_cons.2 ⟨⟨⟨?_, ?_⟩, ?_⟩, ?_⟩
        rotate_left 1
        refine (HExt.eq (by assumption) _ ?_ ?_).trans ?_
        · simp; omega
        · intro h; cases h; done
        refine (Hp.at_push_lt ?_).trans ?_
        · simp; done
        · exact Hp.at_push_eq
        · intro h; cases h; done
        · intro _ h; cases h; done
    · simp; done
    rintro _ _ ⟨rfl, xa2⟩
    have xa2l := HExt.len xa2; try simp at xa2l
    refine ⟨?_, ?_⟩
    · simp; omega
    refine GPcs.write false [List.length H + 1, List.length H] rfl rfl ?_ rfl rfl (gopf_call rfl Try.call13 rfl ?_ (g_rplain _ _ _ _ _ ?_)) rfl ?_ ?_ ?_ ?_
    · with_reducible rfl
    · intro _ h; cases h; done
    refine BS.ext (by assumption) ?_
    refine HExt.tr ?_ (by assumption) ?_
    refine HExt.tr ?_ (by assumption) ?_
    refine HExt.push ?_
    refine HExt.push ?_
    · exact HExt.refl _ _
    · intro _ h; cases h; done
    · intro _ h; cases h; done
    · intro _ h; cases h; done
    focus
      refine List.forall_mem_cons.2 ⟨⟨⟨?_, ?_⟩, ?_⟩, ?_⟩
      rotate_left 1
      refine (HExt.eq (by assumption) _ ?_ ?_).trans ?_
      · omega
      · intro h; cases h; done
      refine (HExt.eq (by assumption) _ ?_ ?_).trans ?_
      · simp; done
      · intro h; cases h; done
      refine Hp.at_push_id ?_
      · simp; done
      · intro h; cases h; done
      focus
        refine List.forall_mem_cons.2 ⟨⟨⟨?_, ?_⟩, ?_⟩, ?_⟩
        rotate_left 1
        refine (HExt.eq (by assumption) _ ?_ ?_).trans ?_
        · omega
        · intro h; cases h; done
        refine (HExt.eq (by assumption) _ ?_ ?_).trans ?_
        · simp; omega
        · intro h; cases h; done
        refine (Hp.at_push_lt ?_).trans ?_
        · simp; done
        · exact Hp.at_push_eq
        · intro h; cases h; done
        · intro _ h; cases h; done
    · simp; done
    rintro _ _ ⟨rfl, xa3⟩
    have xa3l := HExt.len xa3; try simp at xa3l
    refine ⟨?_, ?_⟩
    · simp; omega
    refine GPcs.reads (by simp only [List.filterMap_cons, List.filterMap_nil, List.getElem?_toArray, List.getElem?_cons_succ, List.getElem?_cons_zero]; rfl) ?_
    focus
      refine GQ.r rfl rfl rfl rfl (grd_aeqlK (b := ?_) tab_is rfl rfl rfl rfl rfl rfl ?_ ?_ ?_) ?_ ?_
      rotate_left 1
      · rfl
      · rfl
      · simp [lEq, cEq]; rfl
      · refine .inr ?_; simp
    refine GQ.r rfl rfl rfl rfl (grd_beql tab_is rfl rfl rfl rfl rfl) ?_ ?_
    · refine .inr ?_; simp
    refine GQ.r rfl rfl rfl rfl (grd_move rfl rfl) ?_ ?_
    · refine .inr ?_; simp
    refine GQ.split rfl rfl (fun a4 => ?_) (fun a4 => ?_)
    simp only [beq_true, beq_false, Bool.not_true, Bool.not_false, Bool.not_eq_true', Bool.not_eq_false', decide_eq_true_eq, decide_eq_false_iff_not] at a4
    refine GQ.take rfl rfl ?_ ?_
    · exact decide_eq_true (by assumption)
    focus
      refine GQ.r rfl rfl rfl rfl (grd_loadNK (b := ?_) (cs := ?_) tab_is rfl rfl rfl rfl ?_ ?_ ?_) ?_ ?_
      rotate_left 2
      refine (HExt.eq (by assumption) _ ?_ ?_).trans ?_
      · omega
      · intro h; cases h; done
      refine (HExt.eq (by assumption) _ ?_ ?_).trans ?_
      · omega
      · intro h; cases h; done
      refine (HExt.eq (by assumption) _ ?_ ?_).trans ?_
      · simp; omega
      · intro h; cases h; done
      refine (Hp.at_push_lt ?_).trans ?_
      · simp; done
      · exact Hp.at_push_eq
      · exact Nat.le_of_ble_eq_true rfl
      · simp [Value.cells]; rfl
      · refine .inr ?_; simp
    refine GQ.take rfl rfl ?_ ?_
    · exact decide_eq_true (by assumption)
    focus
      refine GQ.r rfl rfl rfl rfl (grd_loadNK (b := ?_) (cs := ?_) tab_is rfl rfl rfl rfl ?_ ?_ ?_) ?_ ?_
      rotate_left 2
      refine (HExt.eq (by assumption) _ ?_ ?_).trans ?_
      · omega
      · intro h; cases h; done
      refine (HExt.eq (by assumption) _ ?_ ?_).trans ?_
      · omega
      · intro h; cases h; done
      refine (HExt.eq (by assumption) _ ?_ ?_).trans ?_
      · simp; omega
      · intro h; cases h; done
      refine (Hp.at_push_lt ?_).trans ?_
      · simp; done
      · exact Hp.at_push_eq
      · exact Nat.le_of_ble_eq_true rfl
      · simp [Value.cells]; rfl
      · refine .inr ?_; simp
    refine GQ.nil ?_
    refine GPcs.write true [List.length H + 1, List.length H] rfl rfl ?_ rfl rfl (gopf_call rfl Try.call19 rfl ?_ (g_rsame _ _ _ _ _ _ _ _ _ ?_ ?_)) rfl ?_ ?_ ?_ ?_
    · exact decide_eq_true (by assumption)
    · intro _ h; cases h; done
    refine BS.ext (by assumption) ?_
    refine HExt.tr ?_ (by assumption) ?_
    refine HExt.tr ?_ (by assumption) ?_
    refine HExt.tr ?_ (by assumption) ?_
    refine HExt.push ?_
    refine HExt.push ?_
    · exact HExt.refl _ _
    · intro _ h; cases h; done
    · intro _ h; cases h; done
    · intro _ h; cases h; done
    refine BS.ext (by assumption) ?_
    refine HExt.tr ?_ (by assumption) ?_
    refine HExt.tr ?_ (by assumption) ?_
    refine HExt.tr ?_ (by assumption) ?_
    refine HExt.push ?_
    refine HExt.push ?_
    · exact HExt.refl _ _
    · intro _ h; cases h; done
    · intro _ h; cases h; done
    · intro _ h; cases h; done
    · intro _ h; cases h; done
    focus
      refine List.forall_mem_cons.2 ⟨⟨⟨?_, ?_⟩, ?_⟩, ?_⟩
      rotate_left 1
      refine (HExt.eq (by assumption) _ ?_ ?_).trans ?_
      · omega
      · intro h; cases h; done
      refine (HExt.eq (by assumption) _ ?_ ?_).trans ?_
      · omega
      · intro h; cases h; done
      refine (HExt.eq (by assumption) _ ?_ ?_).trans ?_
      · simp; done
      · intro h; cases h; done
      refine Hp.at_push_id ?_
      · simp; done
      · intro h; cases h; done
      focus
        refine List.forall_mem_cons.2 ⟨⟨⟨?_, ?_⟩, ?_⟩, ?_⟩
        rotate_left 1
        refine (HExt.eq (by assumption) _ ?_ ?_).trans ?_
        · omega
        · intro h; cases h; done
        refine (HExt.eq (by assumption) _ ?_ ?_).trans ?_
        · omega
        · intro h; cases h; done
        refine (HExt.eq (by assumption) _ ?_ ?_).trans ?_
        · simp; omega
        · intro h; cases h; done
        refine (Hp.at_push_lt ?_).trans ?_
        · simp; done
        · exact Hp.at_push_eq
        · intro h; cases h; done
        · intro _ h; cases h; done
    · simp; done
    rintro _ _ ⟨rfl, xa5⟩
    have xa5l := HExt.len xa5; try simp at xa5l
    refine ⟨?_, ?_⟩
    · simp; omega
    refine GPcs.reads (by simp only [List.filterMap_cons, List.filterMap_nil, List.getElem?_toArray, List.getElem?_cons_succ, List.getElem?_cons_zero]; rfl) ?_
    refine GQ.r rfl rfl rfl rfl (grd_pick_t rfl rfl ?_ rfl) ?_ ?_
    · assumption
    · exact .inl rfl
    refine GQ.r rfl rfl rfl rfl (grd_assign rfl rfl) ?_ ?_
    · exact .inl rfl
    refine GQ.nil ?_
    refine GPcs.nil ?_
    refine GWP.ret ?_
    refine ⟨_, .one rfl, ?_⟩
    rotate_left 1
    simp only [beq_true, beq_false, Bool.not_true, Bool.not_false, Bool.not_eq_true', Bool.not_eq_false', decide_eq_true_eq, decide_eq_false_iff_not] at a4
    refine GQ.no rfl ?_ rfl rfl ?_
    · simp [*]; done
    refine GQ.no rfl ?_ rfl rfl ?_
    · simp [*]; done
    refine GQ.nil ?_
    refine GPcs.no rfl rfl ?_ rfl rfl ?_
    · simp [*]; done
    refine GPcs.reads (by simp only [List.filterMap_cons, List.filterMap_nil, List.getElem?_toArray, List.getElem?_cons_succ, List.getElem?_cons_zero]; rfl) ?_
    refine GQ.r rfl rfl rfl rfl (grd_pick_f rfl rfl ?_ rfl) ?_ ?_
    · assumption
    · refine .inr ?_; simp
    refine GQ.r rfl rfl rfl rfl (grd_assign rfl rfl) ?_ ?_
    · refine .inr ?_; simp
    refine GQ.nil ?_
    refine GPcs.nil ?_
    refine GWP.ret ?_
    refine ⟨_, .one rfl, ?_⟩
    rotate_left 1
  · exact congrArg Value.bool (RecS.same_self r)
  · rename_i a4
    rw [RecS.same_chain] at a4
    cases a4
theorem list9 {cs : List Value} (hl : cs.length = 9) : ∃ a b c d e f g h i, cs = [a, b, c, d, e, f, g, h, i] := by
  match cs, hl with
  | [a, b, c, d, e, f, g, h, i], _ => exact ⟨a, b, c, d, e, f, g, h, i, rfl⟩
set_option maxHeartbeats 4000000 in
set_option maxRecDepth 100000 in
set_option linter.unusedSimpArgs false in
/-- A record that came in. -/
theorem g_open_record {X : Type} {enc : TypeId × Value → X} {w : World} {v : Value} {d : DataW X} {p : List MemPlace} (hv : Value.okWide Try.prog w .any 0 43 v) (h : DataW.Trod enc Try.prog w 0 (fun _ => true) true 43 v d p) :
    ∃ (r : RecS) (A : Option Addr) (n c : Nat) (l : List UInt8), v = .agg #[.int .u8 r.kind, .int .i64 r.id, .int .i64 r.base, .int .i64 r.fr, .int .i64 r.to, .slice A n c, .int .i64 r.count, .int .u64 r.len, .int .u64 r.sum] ∧ r.blocks = l.take n ∧ (Lit.int .u8 r.kind).wf = true ∧ (Lit.int .i64 r.id).wf = true ∧ (Lit.int .i64 r.base).wf = true ∧ (Lit.int .i64 r.fr).wf = true ∧ (Lit.int .i64 r.to).wf = true ∧ (Lit.int .i64 r.count).wf = true ∧ (Lit.int .u64 r.len).wf = true ∧ (Lit.int .u64 r.sum).wf = true ∧
      n ≤ c ∧ c ≤ maxLen ∧ (A = none → n = 0 ∧ c = 0) ∧ Rd w w.heap.size A (vb l) ∧ l.length = c := by
  obtain ⟨cs, rfl, hsz⟩ := okWide_struct Try.underlying43 hv
  obtain ⟨fuel, hf⟩ := h
  obtain ⟨hl, hs⟩ := open_struct Try.underlying43 hf
  have hc : Try.prog.cellsOf 43 = 9 := by kernel_rfl
  rw [hc] at hl
  obtain ⟨c0, c1, c2, c3, c4, c5, c6, c7, c8, hcs⟩ := list9 hl
  simp only [Value.cells] at hs hcs
  rw [hcs] at hs
  obtain ⟨m0, y0, t0⟩ := hs 0 _ rfl
  obtain ⟨m1, y1, t1⟩ := hs 1 _ rfl
  obtain ⟨m2, y2, t2⟩ := hs 2 _ rfl
  obtain ⟨m3, y3, t3⟩ := hs 3 _ rfl
  obtain ⟨m4, y4, t4⟩ := hs 4 _ rfl
  obtain ⟨m5, y5, t5⟩ := hs 5 _ rfl
  obtain ⟨m6, y6, t6⟩ := hs 6 _ rfl
  obtain ⟨n0, q0, _, w0⟩ := DataW.trod_int Try.underlying36 (trod_cs [c0] (by kernel_rfl) t0)
  obtain ⟨n1, q1, _, w1⟩ := DataW.trod_int Try.underlying3 (trod_cs [c1] (by kernel_rfl) t1)
  obtain ⟨n2, q2, _, w2⟩ := DataW.trod_int Try.underlying3 (trod_cs [c2] (by kernel_rfl) t2)
  obtain ⟨_, s3⟩ := open_struct Try.underlying38 (trod_cs [c3, c4] (by kernel_rfl) t3)
  obtain ⟨m30, y30, t30⟩ := s3 0 _ rfl
  obtain ⟨m31, y31, t31⟩ := s3 1 _ rfl
  obtain ⟨A, n, c, l, q4, g1, g2, g3, g4, g5⟩ := open_btC Try.underlying22 Try.underlying5 (by kernel_rfl) (trod_cs [c5] (by kernel_rfl) t4)
  obtain ⟨n5, q5, _, w5⟩ := DataW.trod_int Try.underlying3 (trod_cs [c6] (by kernel_rfl) t5)
  obtain ⟨_, s6⟩ := open_struct Try.underlying41 (trod_cs [c7, c8] (by kernel_rfl) t6)
  obtain ⟨m60, y60, t60⟩ := s6 0 _ rfl
  obtain ⟨m61, y61, t61⟩ := s6 1 _ rfl
  obtain ⟨n30, q30, _, w30⟩ := DataW.trod_int Try.underlying3 (trod_cs [c3] (by kernel_rfl) t30)
  obtain ⟨n31, q31, _, w31⟩ := DataW.trod_int Try.underlying3 (trod_cs [c4] (by kernel_rfl) t31)
  obtain ⟨n60, q60, _, w60⟩ := DataW.trod_int Try.underlying39 (trod_cs [c7] (by kernel_rfl) t60)
  obtain ⟨n61, q61, _, w61⟩ := DataW.trod_int Try.underlying39 (trod_cs [c8] (by kernel_rfl) t61)
  simp only [List.cons.injEq, and_true] at q0 q1 q2 q30 q31 q5 q60 q61
  subst q0 q1 q2 q30 q31 q4 q5 q60 q61
  refine ⟨⟨n0, n1, n2, n30, n31, l.take n, n5, n60, n61⟩, A, n, c, l, ?_, rfl, w0, w1, w2, w30, w31, w5, w60, w61, g1, g2, g3, g4, g5⟩
  exact congrArg Value.agg (Array.ext' hcs)
theorem recordSame_walk (r q : RecS) (A1 A2 : Option Addr) (n1 c1 n2 c2 : Nat) (l1 l2 : List UInt8) (e1 : r.blocks = l1.take n1) (e2 : q.blocks = l2.take n2) (hn1 : n1 ≤ c1) (hm1 : c1 ≤ maxLen) (hA1 : A1 = none → n1 = 0 ∧ c1 = 0) (hl1 : l1.length = c1) (hn2 : n2 ≤ c2) (hm2 : c2 ≤ maxLen) (hA2 : A2 = none → n2 = 0 ∧ c2 = 0) (hl2 : l2.length = c2)
    (W : World) (hr1 : Rd W W.heap.size A1 (vb l1)) (hr2 : Rd W W.heap.size A2 (vb l2)) (h0 : ∃ (g : Nat) (rs : Array Value) (t : TypeId) (fz : Nat × Nat), W.heap[g]? = some (Obj.cells rs t fz)) :
    Calls Try.prog 6 #[.agg #[.int .u8 r.kind, .int .i64 r.id, .int .i64 r.base, .int .i64 r.fr, .int .i64 r.to, .slice A1 n1 c1, .int .i64 r.count, .int .u64 r.len, .int .u64 r.sum], .agg #[.int .u8 q.kind, .int .i64 q.id, .int .i64 q.base, .int .i64 q.fr, .int .i64 q.to, .slice A2 n2 c2, .int .i64 q.count, .int .u64 q.len, .int .u64 q.sum]] W fun e w' => e = .returned (.bool true) ∧ Below W.heap.size W w' := by
  obtain ⟨μ1, H1, p1, s1, ro1, x1, k1, b1, v1⟩ := (SimH.nothing W).bytes Ro.nil h0 hn1 hm1 hA1 hr1 hl1
  obtain ⟨μ2, H2, p2, s2, ro2, x2, k2, b2, v2⟩ := s1.bytes ro1 h0 hn2 hm2 hA2 hr2 hl2
  have hb1 := b1.ext k2
  have hv1 := v1.mono x2
  rw [← e1] at hb1
  rw [← e2] at b2
  refine ((g_recordSame H2 r q p1 p2 n1 n2 c1 c2 hb1 b2).enter s2 (.cons (.agg (.cons (.int _ _) (.cons (.int _ _) (.cons (.int _ _) (.cons (.int _ _) (.cons (.int _ _) (.cons hv1 (.cons (.int _ _) (.cons (.int _ _) (.cons (.int _ _) .nil)))))))))) (.cons (.agg (.cons (.int _ _) (.cons (.int _ _) (.cons (.int _ _) (.cons (.int _ _) (.cons (.int _ _) (.cons v2 (.cons (.int _ _) (.cons (.int _ _) (.cons (.int _ _) .nil)))))))))) .nil)) (R := fun u => u = .bool true) (fun v hv => by rw [hv]; rfl)).mono ?_
  rintro e w' ⟨v, rfl, rfl, q⟩
  exact ⟨rfl, q⟩
end Go.Proofs.Ytjlimdiimdihfaa
