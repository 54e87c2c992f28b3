/- The reader of layer 1, more: Bytes; the document's reader; varint.Bytes. -/
import Derived.Test.YtpcpkmpkpjohmaaVr
namespace Go.Proofs.Ytpcpkmpkpjohmaa
open Go.RowKit
attribute [local go_sem] max_int2 min_int2

theorem number_le (s : RdS) (m : Nat) : (s.number m).1 ≤ m := by
  unfold RdS.number
  split
  · simp
  · split
    · simp
    · split
      · simp
      · simp only; omega
theorem wrap_i64_of {a : Nat} (h : a ≤ 9223372036854775807) : IntKind.i64.wrap (a : Int) = (a : Int) := by
  rw [IntKind.wrap_i64]
  omega

set_option maxHeartbeats 1000000 in
set_option maxRecDepth 100000 in
theorem bytes_any (w : World) (lo g : Nat) (s : RdS) (most : Int) (hmost : most ≤ 9223372036854775807) (h : Rr w 85 lo g s) :
    Calls Try.prog 38 #[.pointer (some ⟨g, 0, none⟩), .int .i64 most] w fun e w' => ∃ A, e = .returned (.slice A (s.bytes most).1.length (s.bytes most).1.length) ∧ Rd w' g A (vb (s.bytes most).1) ∧ Lo lo A (s.bytes most).1.length ∧
      Rr w' 85 lo g (s.bytes most).2 ∧ Frm w w' [g] ∧ w.heap.size = w'.heap.size := by
  obtain ⟨M, hM⟩ : ∃ M : Nat, max most 0 = (M : Int) := ⟨(max most 0).toNat, by omega⟩
  have hMle : M ≤ 9223372036854775807 := by omega
  have hw1 := wrap_u64_of (a := M) (by omega)
  have hnum := number_any w lo g s M h
  have hle := number_le s M
  have hby : s.bytes most = if (s.number M).2.e ≠ 0 then ([], (s.number M).2) else if (s.number M).2.l.length < (s.number M).1 then ([], ⟨(s.number M).2.l, 2⟩) else ((s.number M).2.l.take (s.number M).1, ⟨(s.number M).2.l.drop (s.number M).1, 0⟩) := by
    unfold RdS.bytes
    rw [hM]
    rfl
  rw [hby]
  clear hby hmost
  generalize s.number M = R at *
  obtain ⟨n1, sl, se⟩ := R
  simp only at hnum hle ⊢
  have hw2 := wrap_i64_of (a := n1) (by omega)
  have Hnum := Lib.hid hnum
  clear hnum hMle hle
  by_cases he : se = 0
  · subst he
    rw [if_neg (by simp)]
    by_cases hlen : sl.length < n1
    · rw [if_pos hlen]
      have Hlen := Lib.hid hlen
      clear hlen
      go_enter Try.func38, Try.ntmps38
      go_wp2_with fail
      refine (Hnum.out).mono ?_
      rintro e w1 ⟨rfl, hr1, hf1, hz1⟩
      go_wp2_with fail
      refine (failed_any w1 lo g _ hr1).mono ?_
      rintro e w2 ⟨rfl, rfl⟩
      have hr1' := hr1
      obtain ⟨A, n, c, hb, hl, hc, hm, hs, hr, hlo⟩ := hr1
      have h0 : w1.cell? ⟨g, 0, none⟩ = some (.slice A n c) := hb.cell 0
      have hlt : (n : Int) < (n1 : Int) := by have := Hlen.out; simp only at hl; omega
      have Hl := Lib.hid hl
      clear hl
      go_wp2_with fail
      refine (fail_any w1 lo g sl 2 hr1').mono ?_
      rintro e w2 ⟨rfl, hr2, hf2, hz2⟩
      go_wp2_with fail
      refine (failed_any w2 lo g _ hr2).mono ?_
      rintro e w3 ⟨rfl, rfl⟩
      go_wp2
      go_ret
      exact ⟨none, rfl, Rd.nil_ _ _ _, fun a ha => (by cases ha), hr2, hf1.trans hf2, hz1.trans hz2⟩
    · rw [if_neg hlen]
      have Hlen := Lib.hid hlen
      clear hlen
      go_enter Try.func38, Try.ntmps38
      go_wp2_with fail
      refine (Hnum.out).mono ?_
      rintro e w1 ⟨rfl, hr1, hf1, hz1⟩
      go_wp2_with fail
      refine (failed_any w1 lo g _ hr1).mono ?_
      rintro e w2 ⟨rfl, rfl⟩
      have hr1' := hr1
      obtain ⟨A, n, c, hb, hl, hc, hm, hs, hr, hlo⟩ := hr1
      simp only at hl hr
      have h0 : w1.cell? ⟨g, 0, none⟩ = some (.slice A n c) := hb.cell 0
      have f0 : w1.frozen? ⟨g, 0, none⟩ = false := hb.free 0
      have hk : n1 ≤ n := by have := Hlen.out; omega
      have hlt : ¬ (n : Int) < (n1 : Int) := by omega
      have hkc : (n1 : Int) ≤ (c : Int) := by omega
      obtain ⟨A2, hsl, hcut1, hcut2⟩ := cut_lo elm_u8 A n c n1 hk hc hm
      have Hl := Lib.hid hl
      have Hs := Lib.hid hs
      clear hl hs
      go_wp2_with fail
      refine (failed_any w1 lo g _ hr1').mono ?_
      rintro e w3 ⟨rfl, rfl⟩
      go_wp2
      go_ret
      have e1 : (sl.take n1).length = n1 := by rw [List.length_take]; have := Hlen.out; omega
      rw [e1]
      refine ⟨A, rfl, ?_, fun a ha hp => hlo a ha (by omega), ⟨A2, n - n1, c - n1, hb.put 0 _, ?_, by omega, by omega, by have := Hs.out; omega, ?_, hcut2 _ hlo⟩, hf1.trans ((Frm.refl _ _).put (.inl (by simp)) _), by simpa using hz1⟩
      · rw [vb_take]
        exact (hr.take n1).keep fun b hb => Below.heap_setCell w1 _ _ b (by simp; omega)
      · have := Hl.out
        simp only [List.length_drop]
        omega
      · simp only [vb_drop]
        have hcut := hcut1 _ _ _ hr (by rw [vb_length]; have := Hl.out; omega)
        rw [Nat.mul_one] at hcut
        exact hcut.keep fun b hb => Below.heap_setCell w1 _ _ b (by simp; omega)
  · rw [if_pos he]
    have he' : ((se : Int) == 0) = false := beq_eq_false_iff_ne.2 (by omega)
    clear he
    go_enter Try.func38, Try.ntmps38
    go_wp2_with fail
    refine (Hnum.out).mono ?_
    rintro e w1 ⟨rfl, hr1, hf1, hz1⟩
    go_wp2_with fail
    refine (failed_any w1 lo g _ hr1).mono ?_
    rintro e w2 ⟨rfl, rfl⟩
    go_wp2_with fail
    refine (failed_any w1 lo g _ hr1).mono ?_
    rintro e w2 ⟨rfl, rfl⟩
    go_wp2
    go_ret
    exact ⟨none, rfl, Rd.nil_ _ _ _, fun a ha => (by cases ha), hr1, hf1, hz1⟩

set_option maxHeartbeats 1000000 in
set_option maxRecDepth 100000 in
theorem refnumber_any (w : World) (lo g : Nat) (s : RdS) (most : Nat) (h : Rr w 72 lo g s) :
    Calls Try.prog 42 #[.pointer (some ⟨g, 0, none⟩), .int .u64 (most : Int)] w fun e w' => e = .returned (.int .u64 ((s.number most).1 : Int)) ∧ Rr w' 72 lo g (s.number most).2 ∧ Frm w w' [g] ∧ w.heap.size = w'.heap.size := by
  have hh := h
  obtain ⟨A, n, c, hb, hl, hc, hm, hs, hr, hlo⟩ := h
  have h0 : w.cell? ⟨g, 0, none⟩ = some (.slice A n c) := hb.cell 0
  have f0 : w.frozen? ⟨g, 0, none⟩ = false := hb.free 0
  have h1 : w.cell? ⟨g, 1, none⟩ = some (.int .i64 (s.e : Int)) := hb.cell 1
  have f1 : w.frozen? ⟨g, 1, none⟩ = false := hb.free 1
  by_cases he : s.e = 0
  · have hx := refnext_any A n c g s.l w hl hs hr
    have herr := nextL_err 0 0 s.l
    change (next s.l).2.2 = 0 ∨ ((next s.l).1 = 0 ∧ (next s.l).2.1 = 0 ∧ (next s.l).2.2 < 4) at herr
    have hnum : s.number most = if (next s.l).2.2 ≠ 0 then (0, ⟨s.l, (next s.l).2.2⟩) else if most < (next s.l).1 then (0, ⟨s.l, 5⟩) else ((next s.l).1, ⟨s.l.drop (next s.l).2.1, 0⟩) := by rw [RdS.number, if_neg (by omega)]
    rw [hnum]
    obtain ⟨sl, se⟩ := s
    simp only at he hl hx herr hr hnum h1 ⊢
    subst he
    clear hnum
    generalize hN : next sl = R at *
    obtain ⟨r1, r2, r3⟩ := R
    simp only at herr hx ⊢
    have Hx := Lib.hid hx
    have Hl := Lib.hid hl
    have HN := Lib.hid hN
    have Hs := Lib.hid hs
    clear hx hl hN hs
    by_cases h3 : r3 = 0
    · subst h3
      obtain ⟨hk1, _, _, hk2⟩ := next_ok HN.out
      have hk : (r2 : Int) ≤ (c : Int) := by have := Hl.out; omega
      have hkn : r2 ≤ n := by have := Hl.out; omega
      obtain ⟨A2, hsl, hcut1, hcut2⟩ := cut_lo elm_u8 A n c r2 hkn hc hm
      clear herr hk1 hk2
      by_cases hmost : (most : Int) < (r1 : Int)
      · rw [if_neg (by simp), if_pos (by omega)]
        go_enter Try.func42, Try.ntmps42
        go_wp2_with (go_at_call 15; refine (Hx.out).mono ?_; rintro e w1 ⟨rfl, rfl⟩)
        go_ret
        exact ⟨rfl, ⟨A, n, c, hb.put 1 _, Hl.out, hc, hm, Hs.out, hr.keep fun b hb => Below.heap_setCell w _ _ b (by simp; omega), hlo⟩, (Frm.refl _ _).put (.inl (by simp)) _, by simp⟩
      · rw [if_neg (by simp), if_neg (by omega)]
        go_enter Try.func42, Try.ntmps42
        go_wp2_with (go_at_call 15; refine (Hx.out).mono ?_; rintro e w1 ⟨rfl, rfl⟩)
        go_ret
        refine ⟨rfl, ⟨A2, n - r2, c - r2, hb.put 0 _, ?_, by omega, by omega, by have := Hs.out; omega, ?_, hcut2 _ hlo⟩, (Frm.refl _ _).put (.inl (by simp)) _, by simp⟩
        · have := Hl.out
          simp only [List.length_drop]
          omega
        · simp only [vb_drop]
          have hcut := hcut1 _ _ _ hr (by rw [vb_length]; have := Hl.out; omega)
          rw [Nat.mul_one] at hcut
          exact hcut.keep fun b hb => Below.heap_setCell w _ _ b (by simp; omega)
    · obtain ⟨rfl, rfl, h4⟩ := herr.resolve_left h3
      have h3' : ((r3 : Int) == 0) = false := beq_eq_false_iff_ne.2 (by omega)
      rw [if_pos h3]
      clear h3 herr h4
      go_enter Try.func42, Try.ntmps42
      go_wp2_with (go_at_call 15; refine (Hx.out).mono ?_; rintro e w1 ⟨rfl, rfl⟩)
      go_ret
      exact ⟨rfl, ⟨A, n, c, hb.put 1 _, Hl.out, hc, hm, Hs.out, hr.keep fun b hb => Below.heap_setCell w _ _ b (by simp; omega), hlo⟩, (Frm.refl _ _).put (.inl (by simp)) _, by simp⟩
  · have hnum : s.number most = (0, s) := by rw [RdS.number, if_pos (by omega)]
    have he' : ((s.e : Int) == 0) = false := beq_eq_false_iff_ne.2 (by omega)
    rw [hnum]
    clear hnum he hl hs
    go_enter Try.func42, Try.ntmps42
    go_wp2
    go_ret
    exact ⟨rfl, hh, Frm.refl _ _, rfl⟩

set_option maxHeartbeats 1000000 in
set_option maxRecDepth 100000 in
theorem refbytes_any (w : World) (lo g : Nat) (s : RdS) (most : Int) (hmost : most ≤ 9223372036854775807) (h : Rr w 72 lo g s) :
    Calls Try.prog 43 #[.pointer (some ⟨g, 0, none⟩), .int .i64 most] w fun e w' => ∃ A c, e = .returned (.slice A (s.bytes most).1.length c) ∧ Rd w' g A (vb (s.bytes most).1) ∧ Lo lo A (s.bytes most).1.length ∧
      Rr w' 72 lo g (s.bytes most).2 ∧ Frm w w' [g] ∧ w.heap.size = w'.heap.size := by
  obtain ⟨M, hM⟩ : ∃ M : Nat, max most 0 = (M : Int) := ⟨(max most 0).toNat, by omega⟩
  have hMle : M ≤ 9223372036854775807 := by omega
  have hw1 := wrap_u64_of (a := M) (by omega)
  have hnum := refnumber_any w lo g s M h
  have hle := number_le s M
  have hby : s.bytes most = if (s.number M).2.e ≠ 0 then ([], (s.number M).2) else if (s.number M).2.l.length < (s.number M).1 then ([], ⟨(s.number M).2.l, 2⟩) else ((s.number M).2.l.take (s.number M).1, ⟨(s.number M).2.l.drop (s.number M).1, 0⟩) := by
    unfold RdS.bytes
    rw [hM]
    rfl
  rw [hby]
  clear hby hmost
  generalize s.number M = R at *
  obtain ⟨n1, sl, se⟩ := R
  simp only at hnum hle ⊢
  have hw2 := wrap_i64_of (a := n1) (by omega)
  have Hnum := Lib.hid hnum
  have HMle := Lib.hid hMle
  clear hnum hMle hle
  have hcase : (most < 0 ∧ (M : Int) = 0) ∨ (¬ most < 0 ∧ most = (M : Int)) := by omega
  clear hM
  rcases hcase with ⟨hneg, hM0⟩ | ⟨hneg, rfl⟩
  all_goals
    try (have HM0 := Lib.hid hM0; clear hM0; obtain rfl : M = 0 := by have := HM0.out; omega)
    clear hw1
    try have hw1 : IntKind.u64.wrap (M : Int) = (M : Int) := wrap_u64_of (by have := HMle.out; omega)
    clear HMle
    by_cases he : se = 0
    · subst he
      rw [if_neg (by simp)]
      by_cases hlen : sl.length < n1
      · rw [if_pos hlen]
        have Hlen := Lib.hid hlen
        clear hlen
        go_enter Try.func43, Try.ntmps43
        go_wp2_with fail
        refine (Hnum.out).mono ?_
        rintro e w1 ⟨rfl, hr1, hf1, hz1⟩
        obtain ⟨A, n, c, hb, hl, hc, hm, hs, hr, hlo⟩ := hr1
        simp only at hl hr
        have h0 : w1.cell? ⟨g, 0, none⟩ = some (.slice A n c) := hb.cell 0
        have h1 : w1.cell? ⟨g, 1, none⟩ = some (.int .i64 0) := hb.cell 1
        have f1 : w1.frozen? ⟨g, 1, none⟩ = false := hb.free 1
        have hlt : (n : Int) < (n1 : Int) := by have := Hlen.out; omega
        have Hl := Lib.hid hl
        have Hs := Lib.hid hs
        clear hl hs
        go_wp2
        go_ret
        exact ⟨none, 0, rfl, Rd.nil_ _ _ _, fun a ha => (by cases ha), ⟨A, n, c, hb.put 1 _, Hl.out, hc, hm, Hs.out, hr.keep fun b hb => Below.heap_setCell w1 _ _ b (by simp; omega), hlo⟩, hf1.trans ((Frm.refl _ _).put (.inl (by simp)) _), by simpa using hz1⟩
      · rw [if_neg hlen]
        have Hlen := Lib.hid hlen
        clear hlen
        go_enter Try.func43, Try.ntmps43
        go_wp2_with fail
        refine (Hnum.out).mono ?_
        rintro e w1 ⟨rfl, hr1, hf1, hz1⟩
        obtain ⟨A, n, c, hb, hl, hc, hm, hs, hr, hlo⟩ := hr1
        simp only at hl hr
        have h0 : w1.cell? ⟨g, 0, none⟩ = some (.slice A n c) := hb.cell 0
        have f0 : w1.frozen? ⟨g, 0, none⟩ = false := hb.free 0
        have h1 : w1.cell? ⟨g, 1, none⟩ = some (.int .i64 0) := hb.cell 1
        have hk : n1 ≤ n := by have := Hlen.out; omega
        have hlt : ¬ (n : Int) < (n1 : Int) := by omega
        have hkc : (n1 : Int) ≤ (c : Int) := by omega
        obtain ⟨A2, hsl, hcut1, hcut2⟩ := cut_lo elm_u8 A n c n1 hk hc hm
        have Hl := Lib.hid hl
        have Hs := Lib.hid hs
        clear hl hs
        go_wp2
        go_ret
        have e1 : (sl.take n1).length = n1 := by rw [List.length_take]; have := Hlen.out; omega
        rw [e1]
        refine ⟨A, _, rfl, ?_, fun a ha hp => hlo a ha (by omega), ⟨A2, n - n1, c - n1, hb.put 0 _, ?_, by omega, by omega, by have := Hs.out; omega, ?_, hcut2 _ hlo⟩, hf1.trans ((Frm.refl _ _).put (.inl (by simp)) _), by simpa using hz1⟩
        · rw [vb_take]
          exact (hr.take n1).keep fun b hb => Below.heap_setCell w1 _ _ b (by simp; omega)
        · have := Hl.out
          simp only [List.length_drop]
          omega
        · simp only [vb_drop]
          have hcut := hcut1 _ _ _ hr (by rw [vb_length]; have := Hl.out; omega)
          rw [Nat.mul_one] at hcut
          exact hcut.keep fun b hb => Below.heap_setCell w1 _ _ b (by simp; omega)
    · rw [if_pos he]
      have he' : ((se : Int) == 0) = false := beq_eq_false_iff_ne.2 (by omega)
      clear he
      go_enter Try.func43, Try.ntmps43
      go_wp2_with fail
      refine (Hnum.out).mono ?_
      rintro e w1 ⟨rfl, hr1, hf1, hz1⟩
      have hr1' := hr1
      obtain ⟨A, n, c, hb, hl, hc, hm, hs, hr, hlo⟩ := hr1
      have h1 : w1.cell? ⟨g, 1, none⟩ = some (.int .i64 (se : Int)) := hb.cell 1
      clear hl hs
      go_wp2
      go_ret
      exact ⟨none, 0, rfl, Rd.nil_ _ _ _, fun a ha => (by cases ha), hr1', hf1, hz1⟩
end Go.Proofs.Ytpcpkmpkpjohmaa
