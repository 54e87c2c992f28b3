/- What the methods of a power come to. -/
import Derived.Test.YteglbehjokldjaaChecked
import Derived.Test.YteglbehjokldjaaWd
import Derived.WalkLawsBesides
import Derived.RegionTactic
import Derived.LaidEqlPtr
namespace Go.Proofs.Yteglbehjokldjaa
open Go.RowKit

/-- A power: as its struct has it. -/
structure PowS where
  plan : Bool
  after : Int
  torn : Int
  off : Bool
  count : Int
def PowS.cells (p : PowS) : Array Value := #[.bool p.plan, .int .i64 p.after, .int .i64 p.torn, .bool p.off, .int .i64 p.count]
def PowS.ok (p : PowS) : Prop := -9223372036854775808 ≤ p.after ∧ p.after ≤ 9223372036854775807
def PowS.new : PowS := ⟨false, 0, 0, false, 0⟩
def PowS.planned (p : PowS) (a t : Int) : PowS := { p with plan := decide (0 ≤ a), after := a, torn := t }
def PowS.up (p : PowS) : PowS := { p with off := false, plan := false }
def PowS.wrote (p : PowS) (n : Int) : PowS :=
  if n < 0 then p else if p.off then p else if p.plan = false then { p with count := wrap64 (p.count + 1) }
  else if 0 < p.after then { p with count := wrap64 (p.count + 1), after := p.after - 1 } else { p with count := wrap64 (p.count + 1), off := true, plan := false }
def PowS.gone (p : PowS) (n : Int) : Int × Int :=
  if n < 0 then (0, 1) else if p.off then (0, 11) else if p.plan = false then (n, 0) else if 0 < p.after then (n, 0) else (min (max p.torn 0) n, 11)
/-- The power p lies in block g. -/
def Pw (w : World) (g : Nat) (p : PowS) : Prop := Bk w g 137 p.cells ∧ p.ok

attribute [local go_sem] max_int2 min_int2

theorem Pw.frm {w w' : World} {g : Nat} {p : PowS} {F : List Nat} (h : Pw w g p) (k : Frm w w' F) (hg : g ∉ F) : Pw w' g p := ⟨h.1.frm k hg, h.2⟩
theorem Pw.lt {w : World} {g : Nat} {p : PowS} (h : Pw w g p) : g < w.heap.size := h.1.lt

theorem pow_new (w : World) : Calls Try.prog 15 #[] w fun e w' => ∃ g, e = .returned (.pointer (some ⟨g, 0, none⟩)) ∧ w.heap.size ≤ g ∧ Pw w' g PowS.new ∧ Below w.heap.size w w' := by
  go_enter Try.func15, Try.ntmps15
  go_wp2
  go_ret
  exact ⟨w.heap.size, rfl, Nat.le_refl _, ⟨Bk.new w _ _, by simp [PowS.ok, PowS.new]⟩, below_al (Below.refl _ _) _⟩

theorem pow_on (w : World) (g : Nat) (p : PowS) (h : Pw w g p) :
    Calls Try.prog 58 #[.pointer (some ⟨g, 0, none⟩)] w fun e w' => e = .returned (.bool !p.off) ∧ w = w' := by
  have h3 : w.cell? ⟨g, 3, none⟩ = some (.bool p.off) := h.1.cell 3
  go_enter Try.func58, Try.ntmps58
  go_wp2
  go_ret
  exact ⟨rfl, rfl⟩
theorem pow_on_nil (w : World) :
    Calls Try.prog 58 #[.pointer none] w fun e w' => e = .returned (.bool false) ∧ w = w' := by
  go_enter Try.func58, Try.ntmps58
  go_wp2
  go_ret
  exact ⟨rfl, rfl⟩
theorem pow_up (w : World) (g : Nat) (p : PowS) (h : Pw w g p) :
    Calls Try.prog 26 #[.pointer (some ⟨g, 0, none⟩)] w fun e w' => e = .returned (.tuple #[]) ∧ Pw w' g p.up ∧ Frm w w' [g] ∧ w.heap.size = w'.heap.size := by
  obtain ⟨hb, hok⟩ := h
  have h3 : w.cell? ⟨g, 3, none⟩ = some (.bool p.off) := hb.cell 3
  have f3 : w.frozen? ⟨g, 3, none⟩ = false := hb.free 3
  have h0 : w.cell? ⟨g, 0, none⟩ = some (.bool p.plan) := hb.cell 0
  have f0 : w.frozen? ⟨g, 0, none⟩ = false := hb.free 0
  go_enter Try.func26, Try.ntmps26
  go_wp2
  go_end0
  exact ⟨rfl, ⟨(hb.put 3 _).put 0 _, hok⟩, ((Frm.refl _ _).put (.inl (by simp)) _).put (.inl (by simp)) _, by simp⟩
theorem pow_up_nil (w : World) :
    Calls Try.prog 26 #[.pointer none] w fun e w' => e = .returned (.tuple #[]) ∧ w = w' := by
  go_enter Try.func26, Try.ntmps26
  go_wp2
  go_end0
  exact ⟨rfl, rfl⟩
theorem pow_plan (w : World) (g : Nat) (p : PowS) (a t : Int) (h : Pw w g p) (ha : -9223372036854775808 ≤ a ∧ a ≤ 9223372036854775807) :
    Calls Try.prog 25 #[.pointer (some ⟨g, 0, none⟩), .int .i64 a, .int .i64 t] w fun e w' => e = .returned (.tuple #[]) ∧ Pw w' g (p.planned a t) ∧ Frm w w' [g] ∧ w.heap.size = w'.heap.size := by
  obtain ⟨hb, hok⟩ := h
  have h0 : w.cell? ⟨g, 0, none⟩ = some (.bool p.plan) := hb.cell 0
  have f0 : w.frozen? ⟨g, 0, none⟩ = false := hb.free 0
  have h1 : w.cell? ⟨g, 1, none⟩ = some (.int .i64 p.after) := hb.cell 1
  have f1 : w.frozen? ⟨g, 1, none⟩ = false := hb.free 1
  have h2 : w.cell? ⟨g, 2, none⟩ = some (.int .i64 p.torn) := hb.cell 2
  have f2 : w.frozen? ⟨g, 2, none⟩ = false := hb.free 2
  have Ha := Lib.hid ha
  clear ha
  go_enter Try.func25, Try.ntmps25
  go_wp2
  go_end0
  exact ⟨rfl, ⟨((hb.put 0 _).put 1 _).put 2 _, Ha.out⟩, (((Frm.refl _ _).put (.inl (by simp)) _).put (.inl (by simp)) _).put (.inl (by simp)) _, by simp⟩
theorem pow_plan_nil (w : World) (a t : Int) :
    Calls Try.prog 25 #[.pointer none, .int .i64 a, .int .i64 t] w fun e w' => e = .returned (.tuple #[]) ∧ w = w' := by
  go_enter Try.func25, Try.ntmps25
  go_wp2
  go_end0
  exact ⟨rfl, rfl⟩
theorem pow_write_nil (w : World) (n : Int) :
    Calls Try.prog 72 #[.pointer none, .int .i64 n] w fun e w' => e = .returned (.tuple #[.int .i64 0, .int .i64 (if n < 0 then 1 else 11)]) ∧ w = w' := by
  by_cases hn : n < 0
  · rw [if_pos hn]
    go_enter Try.func72, Try.ntmps72
    go_wp2
    go_ret2
    exact ⟨rfl, rfl⟩
  · rw [if_neg hn]
    go_enter Try.func72, Try.ntmps72
    go_wp2_with (go_at_call 58; refine (pow_on_nil _).mono ?_; rintro e w1 ⟨rfl, rfl⟩)
    go_ret2
    exact ⟨rfl, rfl⟩
theorem pow_write (w : World) (g : Nat) (p : PowS) (n : Int) (h : Pw w g p) :
    Calls Try.prog 72 #[.pointer (some ⟨g, 0, none⟩), .int .i64 n] w fun e w' =>
      e = .returned (.tuple #[.int .i64 (p.gone n).1, .int .i64 (p.gone n).2]) ∧ Pw w' g (p.wrote n) ∧ Frm w w' [g] ∧ w.heap.size = w'.heap.size := by
  have hp := h
  obtain ⟨hb, hok⟩ := h
  have h0 : w.cell? ⟨g, 0, none⟩ = some (.bool p.plan) := hb.cell 0
  have f0 : w.frozen? ⟨g, 0, none⟩ = false := hb.free 0
  have h1 : w.cell? ⟨g, 1, none⟩ = some (.int .i64 p.after) := hb.cell 1
  have f1 : w.frozen? ⟨g, 1, none⟩ = false := hb.free 1
  have h2 : w.cell? ⟨g, 2, none⟩ = some (.int .i64 p.torn) := hb.cell 2
  have h3 : w.cell? ⟨g, 3, none⟩ = some (.bool p.off) := hb.cell 3
  have f3 : w.frozen? ⟨g, 3, none⟩ = false := hb.free 3
  have h4 : w.cell? ⟨g, 4, none⟩ = some (.int .i64 p.count) := hb.cell 4
  have f4 : w.frozen? ⟨g, 4, none⟩ = false := hb.free 4
  have hbl := hok.2
  have Hok := Lib.hid hok
  clear hok
  obtain ⟨pl, af, to, off, co⟩ := p
  simp only at h0 h1 h2 h3 h4 hbl
  by_cases hn : n < 0
  · have e1 : PowS.gone ⟨pl, af, to, off, co⟩ n = (0, 1) := by rw [PowS.gone, if_pos hn]
    have e2 : PowS.wrote ⟨pl, af, to, off, co⟩ n = ⟨pl, af, to, off, co⟩ := by rw [PowS.wrote, if_pos hn]
    rw [e1, e2]
    clear e1 e2
    go_enter Try.func72, Try.ntmps72
    go_wp2
    go_ret2
    exact ⟨rfl, hp, Frm.refl _ _, rfl⟩
  · cases off with
    | true =>
      have e1 : PowS.gone ⟨pl, af, to, true, co⟩ n = (0, 11) := by rw [PowS.gone, if_neg hn]; rfl
      have e2 : PowS.wrote ⟨pl, af, to, true, co⟩ n = ⟨pl, af, to, true, co⟩ := by rw [PowS.wrote, if_neg hn]; rfl
      rw [e1, e2]
      clear e1 e2
      go_enter Try.func72, Try.ntmps72
      go_wp2_with (go_at_call 58; refine (pow_on _ g _ hp).mono ?_; rintro e w1 ⟨rfl, rfl⟩)
      go_ret2
      exact ⟨rfl, hp, Frm.refl _ _, rfl⟩
    | false =>
      cases pl with
      | false =>
        have e1 : PowS.gone ⟨false, af, to, false, co⟩ n = (n, 0) := by rw [PowS.gone, if_neg hn]; rfl
        have e2 : PowS.wrote ⟨false, af, to, false, co⟩ n = ⟨false, af, to, false, wrap64 (co + 1)⟩ := by rw [PowS.wrote, if_neg hn]; rfl
        rw [e1, e2]
        clear e1 e2
        go_enter Try.func72, Try.ntmps72
        go_wp2_with (go_at_call 58; refine (pow_on _ g _ hp).mono ?_; rintro e w1 ⟨rfl, rfl⟩)
        go_ret2
        exact ⟨rfl, ⟨hb.put 4 _, Hok.out⟩, (Frm.refl _ _).put (.inl (by simp)) _, by simp⟩
      | true =>
        by_cases ha : 0 < af
        · have e1 : PowS.gone ⟨true, af, to, false, co⟩ n = (n, 0) := by rw [PowS.gone, if_neg hn]; simp [ha]
          have e2 : PowS.wrote ⟨true, af, to, false, co⟩ n = ⟨true, af - 1, to, false, wrap64 (co + 1)⟩ := by rw [PowS.wrote, if_neg hn]; simp [ha]
          rw [e1, e2]
          clear e1 e2
          go_enter Try.func72, Try.ntmps72
          go_wp2_with (go_at_call 58; refine (pow_on _ g _ hp).mono ?_; rintro e w1 ⟨rfl, rfl⟩)
          go_ret2
          exact ⟨rfl, ⟨(hb.put 4 _).put 1 _, by have := Hok.out; simp only [PowS.ok] at this ⊢; omega⟩, ((Frm.refl _ _).put (.inl (by simp)) _).put (.inl (by simp)) _, by simp⟩
        · have e1 : PowS.gone ⟨true, af, to, false, co⟩ n = (min (max to 0) n, 11) := by rw [PowS.gone, if_neg hn]; simp [ha]
          have e2 : PowS.wrote ⟨true, af, to, false, co⟩ n = ⟨false, af, to, true, wrap64 (co + 1)⟩ := by rw [PowS.wrote, if_neg hn]; simp [ha]
          rw [e1, e2]
          clear e1 e2
          go_enter Try.func72, Try.ntmps72
          go_wp2_with (go_at_call 58; refine (pow_on _ g _ hp).mono ?_; rintro e w1 ⟨rfl, rfl⟩)
          go_ret2
          exact ⟨rfl, ⟨((hb.put 4 _).put 3 _).put 0 _, Hok.out⟩, (((Frm.refl _ _).put (.inl (by simp)) _).put (.inl (by simp)) _).put (.inl (by simp)) _, by simp⟩
end Go.Proofs.Yteglbehjokldjaa
