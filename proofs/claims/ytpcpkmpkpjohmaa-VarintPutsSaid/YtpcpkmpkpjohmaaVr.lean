/- The reader of layer 1, the program's and the document's: slices.Clone, Open, Number, Bytes, Failed, End. -/
import Derived.Test.YtpcpkmpkpjohmaaVc
namespace Go.Proofs.Ytpcpkmpkpjohmaa
open Go.RowKit
attribute [local go_sem] max_int2 min_int2

theorem clone_any (A : Option Addr) (n c B : Nat) (l : List UInt8) (w : World) (hl : l.length = n) (hn : n ≤ 140737488355328) (hA : A = none → n = 0) (hr : Rd w B A (vb l)) :
    Calls Try.prog 52 #[.slice A n c] w fun e w' => ∃ v, e = .returned v ∧ w'.ownsRow w.heap.size 5 1 v n (vb l) ∧ Below w.heap.size w w' := by
  cases A with
  | none =>
    obtain rfl := hA rfl
    obtain rfl : l = [] := List.eq_nil_of_length_eq_zero hl
    have heq := fun w : World => Lib.run_eql_slice_nil (P := Try.prog) w 22 5 none 0 c 0 0 Try.underlying22
    go_enter Try.func52, Try.ntmps52
    go_wp2
    go_ret
    exact ⟨_, rfl, World.ownsRow_nil _ _ _ _, Below.refl _ _⟩
  | some a =>
    have heq := fun w : World => Lib.run_eql_slice_nil (P := Try.prog) w 22 5 (some a) n c 0 0 Try.underlying22
    have Hl := Lib.hid hl
    have Hn := Lib.hid hn
    clear hl hA hn
    have hown : (w.alloc (.cells #[] 5)).ownsRow w.heap.size 5 1 (.slice (some ⟨w.heap.size, 0, none⟩) 0 0) 0 [] := World.ownsRow_made w #[] 0 (Nat.le_refl _) (by simp [maxLen]) rfl
    have hrd : Rd (w.alloc (.cells #[] 5)) (min B w.heap.size) (some a) (vb l) := by
      intro j u hu
      obtain ⟨b, off, h1, h2, h3⟩ := hr j u hu
      have hlt := World.block_lt_of_cell? w _ h3
      exact ⟨b, off, h1, by simp at hlt; omega, (World.cell?_of_block (Below.heap_alloc w _ b hlt)).trans h3⟩
    go_enter Try.func52, Try.ntmps52
    go_wp2_with (at_builtin; refine wpList_append_app _ rfl (.tmp 5) (.tmp 6) _ rfl w.heap.size _ _ 1 1 elm_u8 _ 0 [] rfl (.inl hown) _ _ n c (vb l) rfl (by rw [vb_length, Hl.out]; omega) hrd (vb_one _) (by have := Hn.out; simp only [maxLen]; omega) (by have := Hn.out; omega) (by simp) ?_; intro v1 w1 hA1)
    go_ret
    refine ⟨v1, rfl, ?_, ?_⟩
    · have := hA1.own (.inr hown)
      simpa using this
    · exact (below_al (Below.refl _ _) _).trans hA1.below

/-- What is left of a reader, and what is wrong. -/
structure RdS where
  l : List UInt8
  e : Nat
def RdS.number (s : RdS) (most : Nat) : Nat × RdS :=
  if s.e ≠ 0 then (0, s) else if (next s.l).2.2 ≠ 0 then (0, ⟨s.l, (next s.l).2.2⟩) else if most < (next s.l).1 then (0, ⟨s.l, 5⟩) else ((next s.l).1, ⟨s.l.drop (next s.l).2.1, 0⟩)
def RdS.bytes (s : RdS) (most : Int) : List UInt8 × RdS :=
  let r := s.number (max most 0).toNat
  if r.2.e ≠ 0 then ([], r.2) else if r.2.l.length < r.1 then ([], ⟨r.2.l, 2⟩) else (r.2.l.take r.1, ⟨r.2.l.drop r.1, 0⟩)
def RdS.fin (s : RdS) : Nat := if s.e ≠ 0 then s.e else if 0 < s.l.length then 5 else 0

/-- A reader's struct in block g, its bytes in a block from lo on, ahead of g. -/
def Rr (w : World) (T : TypeId) (lo g : Nat) (s : RdS) : Prop :=
  ∃ A n c, Bk w g T #[.slice A n c, .int .i64 (s.e : Int)] ∧ s.l.length = n ∧ n ≤ c ∧ c ≤ maxLen ∧ n ≤ 9223372036854775000 ∧ Rd w g A (vb s.l) ∧ Lo lo A n
theorem Rr.lt {w : World} {T : TypeId} {lo g : Nat} {s : RdS} (h : Rr w T lo g s) : g < w.heap.size := by
  obtain ⟨A, n, c, h1, _⟩ := h
  exact h1.lt
theorem Rr.frm {w w' : World} {T : TypeId} {lo g : Nat} {s : RdS} {F : List Nat} (h : Rr w T lo g s) (k : Frm w w' F) (hF : ∀ x ∈ F, x < lo ∨ g < x) (hg : lo ≤ g) : Rr w' T lo g s := by
  obtain ⟨A, n, c, h1, h2, h3, h4, h5, h6, h7⟩ := h
  refine ⟨A, n, c, h1.frm k (fun hm => by have := hF g hm; omega), h2, h3, h4, h5, ?_, h7⟩
  intro j u hu
  obtain ⟨b, off, e1, e2, e3⟩ := h6 j u hu
  have hlo := h7 _ e1 (by
    rcases Nat.eq_zero_or_pos n with h0 | h0
    · rw [← h2, ← vb_length] at h0
      rw [List.getElem?_eq_none (by omega)] at hu
      cases hu
    · exact h0)
  exact ⟨b, off, e1, e2, (World.cell?_of_block (k.block b (World.block_lt_of_cell? w _ e3) (fun hm => by have := hF b hm; simp at hlo; omega))).trans e3⟩

theorem open_any (A : Option Addr) (n c B : Nat) (l : List UInt8) (w : World) (hl : l.length = n) (hn : n ≤ 140737488355328) (hA : A = none → n = 0) (hr : Rd w B A (vb l)) :
    Calls Try.prog 41 #[.slice A n c] w fun e w' => ∃ g, e = .returned (.pointer (some ⟨g, 0, none⟩)) ∧ w.heap.size ≤ g ∧ Rr w' 85 w.heap.size g ⟨l, 0⟩ ∧ Below w.heap.size w w' := by
  have Hl := Lib.hid hl
  have Hn := Lib.hid hn
  clear hl hn
  go_enter Try.func41, Try.ntmps41
  go_wp2_with fail
  refine (clone_any A n c B l w Hl.out Hn.out hA hr).mono ?_
  rintro e w1 ⟨v, rfl, hown, hb⟩
  have hb' := hb
  have hs := App.slice (.inl hown)
  obtain ⟨A', c', rfl, hc', hr'⟩ := hs
  have hcm : c' ≤ maxLen := by
    rcases hown.2 with ⟨h, _⟩ | ⟨g, cap, cur, h, _, _, _, hm, _⟩
    · injection h with _ _ h
      subst h
      simp [maxLen]
    · injection h with _ _ h
      subst h
      exact hm
  have hlo : Lo w.heap.size A' n := fun a ha _ => (hown.lt a.block (by rw [ha]; rfl)).1
  have Hown := Lib.hid hown
  clear hown
  go_wp2
  go_ret
  refine ⟨w1.heap.size, rfl, hb.size, ⟨A', n, c', Bk.new w1 _ _, Hl.out, hc', hcm, by have := Hn.out; omega, hr'.alloc (Nat.le_refl _) _, hlo⟩, below_al hb' _⟩

theorem failed_any (w : World) (lo g : Nat) (s : RdS) (h : Rr w 85 lo g s) :
    Calls Try.prog 39 #[.pointer (some ⟨g, 0, none⟩)] w fun e w' => e = .returned (.int .i64 (s.e : Int)) ∧ w = w' := by
  obtain ⟨A, n, c, hb, _⟩ := h
  have h1 : w.cell? ⟨g, 1, none⟩ = some (.int .i64 (s.e : Int)) := hb.cell 1
  go_enter Try.func39, Try.ntmps39
  go_wp2
  go_ret
  exact ⟨rfl, rfl⟩
theorem failed_nil (w : World) : Calls Try.prog 39 #[.pointer none] w fun e w' => e = .returned (.int .i64 1) ∧ w = w' := by
  go_enter Try.func39, Try.ntmps39
  go_wp2
  go_ret
  exact ⟨rfl, rfl⟩
theorem end_nil (w : World) : Calls Try.prog 40 #[.pointer none] w fun e w' => e = .returned (.int .i64 1) ∧ w = w' := by
  go_enter Try.func40, Try.ntmps40
  go_wp2_with (go_at_call 39; refine (failed_nil _).mono ?_; rintro e w1 ⟨rfl, rfl⟩)
  go_ret
  exact ⟨rfl, rfl⟩
theorem number_nil (w : World) (m : Int) : Calls Try.prog 37 #[.pointer none, .int .u64 m] w fun e w' => e = .returned (.int .u64 0) ∧ w = w' := by
  go_enter Try.func37, Try.ntmps37
  go_wp2_with (go_at_call 39; refine (failed_nil _).mono ?_; rintro e w1 ⟨rfl, rfl⟩)
  go_ret
  exact ⟨rfl, rfl⟩
theorem bytes_nil (w : World) (m : Int) : Calls Try.prog 38 #[.pointer none, .int .i64 m] w fun e w' => e = .returned (.slice none 0 0) ∧ w = w' := by
  go_enter Try.func38, Try.ntmps38
  go_wp2_with (first | (go_at_call 39; refine (failed_nil _).mono ?_; rintro e w1 ⟨rfl, rfl⟩) | (go_at_call 37; refine (number_nil _ _).mono ?_; rintro e w1 ⟨rfl, rfl⟩))
  go_ret
  exact ⟨rfl, rfl⟩
theorem end_any (w : World) (lo g : Nat) (s : RdS) (h : Rr w 85 lo g s) :
    Calls Try.prog 40 #[.pointer (some ⟨g, 0, none⟩)] w fun e w' => e = .returned (.int .i64 (s.fin : Int)) ∧ w = w' := by
  have hh := h
  obtain ⟨A, n, c, hb, hl, _⟩ := h
  have h0 : w.cell? ⟨g, 0, none⟩ = some (.slice A n c) := hb.cell 0
  by_cases he : s.e = 0
  · by_cases hn : (0 : Int) < (n : Int)
    · have e1 : s.fin = 5 := by rw [RdS.fin, if_neg (by omega), if_pos (by omega)]
      have hf := failed_any w lo g s hh
      rw [he] at hf
      rw [e1]
      have Hf := Lib.hid hf
      clear hf e1 he hl
      go_enter Try.func40, Try.ntmps40
      go_wp2_with (go_at_call 39; refine (Hf.out).mono ?_; rintro e w1 ⟨rfl, rfl⟩)
      go_ret
      exact ⟨rfl, rfl⟩
    · have e1 : s.fin = 0 := by rw [RdS.fin, if_neg (by omega), if_neg (by omega)]
      have hf := failed_any w lo g s hh
      rw [he] at hf
      rw [e1]
      have Hf := Lib.hid hf
      clear hf e1 he hl
      go_enter Try.func40, Try.ntmps40
      go_wp2_with (go_at_call 39; refine (Hf.out).mono ?_; rintro e w1 ⟨rfl, rfl⟩)
      go_ret
      exact ⟨rfl, rfl⟩
  · have e1 : s.fin = s.e := by rw [RdS.fin, if_pos (by omega)]
    have he' : ((s.e : Int) == 0) = false := beq_eq_false_iff_ne.2 (by omega)
    rw [e1]
    clear e1 he hl
    go_enter Try.func40, Try.ntmps40
    go_wp2_with (go_at_call 39; refine (failed_any _ lo g s hh).mono ?_; rintro e w1 ⟨rfl, rfl⟩)
    go_ret
    exact ⟨rfl, rfl⟩

/-- 'fail', where nothing was wrong. -/
theorem fail_any (w : World) (lo g : Nat) (l : List UInt8) (k : Nat) (h : Rr w 85 lo g ⟨l, 0⟩) :
    Calls Try.prog 54 #[.pointer (some ⟨g, 0, none⟩), .int .i64 (k : Int)] w fun e w' => e = .returned (.tuple #[]) ∧ Rr w' 85 lo g ⟨l, k⟩ ∧ Frm w w' [g] ∧ w.heap.size = w'.heap.size := by
  obtain ⟨A, n, c, hb, hl, hc, hm, hs, hr, hlo⟩ := h
  have h1 : w.cell? ⟨g, 1, none⟩ = some (.int .i64 0) := hb.cell 1
  have f1 : w.frozen? ⟨g, 1, none⟩ = false := hb.free 1
  have Hs := Lib.hid hs
  have Hl := Lib.hid hl
  clear hl hs
  go_enter Try.func54, Try.ntmps54
  go_wp2
  go_end0
  refine ⟨rfl, ⟨A, n, c, hb.put 1 _, Hl.out, hc, hm, Hs.out, ?_, hlo⟩, (Frm.refl _ _).put (.inl (by simp)) _, by simp⟩
  exact hr.keep fun b hb => Below.heap_setCell w _ _ b (by simp; omega)

set_option maxHeartbeats 1000000 in
set_option maxRecDepth 100000 in
theorem number_any (w : World) (lo g : Nat) (s : RdS) (most : Nat) (h : Rr w 85 lo g s) :
    Calls Try.prog 37 #[.pointer (some ⟨g, 0, none⟩), .int .u64 (most : Int)] w fun e w' => e = .returned (.int .u64 ((s.number most).1 : Int)) ∧ Rr w' 85 lo g (s.number most).2 ∧ Frm w w' [g] ∧ w.heap.size = w'.heap.size := by
  have hh := h
  obtain ⟨A, n, c, hb, hl, hc, hm, hs, hr, hlo⟩ := h
  have h0 : w.cell? ⟨g, 0, none⟩ = some (.slice A n c) := hb.cell 0
  have f0 : w.frozen? ⟨g, 0, none⟩ = false := hb.free 0
  by_cases he : s.e = 0
  · have hf := failed_any w lo g s hh
    have hx := next_any A n c g s.l w hl hs hr
    have herr := nextL_err 0 0 s.l
    change (next s.l).2.2 = 0 ∨ ((next s.l).1 = 0 ∧ (next s.l).2.1 = 0 ∧ (next s.l).2.2 < 4) at herr
    have hnum : s.number most = if (next s.l).2.2 ≠ 0 then (0, ⟨s.l, (next s.l).2.2⟩) else if most < (next s.l).1 then (0, ⟨s.l, 5⟩) else ((next s.l).1, ⟨s.l.drop (next s.l).2.1, 0⟩) := by rw [RdS.number, if_neg (by omega)]
    rw [hnum]
    obtain ⟨sl, se⟩ := s
    simp only at he hl hx herr hr hnum ⊢
    subst he
    clear hnum
    generalize hN : next sl = R at *
    obtain ⟨r1, r2, r3⟩ := R
    simp only at herr hx ⊢
    have Hf := Lib.hid hf
    have Hx := Lib.hid hx
    have Hl := Lib.hid hl
    have HN := Lib.hid hN
    have Hs := Lib.hid hs
    clear hf hx hl hN hs
    by_cases h3 : r3 = 0
    · subst h3
      obtain ⟨hk1, _, _, hk2⟩ := next_ok HN.out
      have hk : (r2 : Int) ≤ (c : Int) := by have := Hl.out; omega
      have hkn : r2 ≤ n := by have := Hl.out; omega
      obtain ⟨A2, hsl, hcut1, hcut2⟩ := cut_lo elm_u8 A n c r2 hkn hc hm
      clear herr hk1 hk2
      by_cases hmost : (most : Int) < (r1 : Int)
      · rw [if_neg (by simp), if_pos (by omega)]
        go_enter Try.func37, Try.ntmps37
        go_wp2_with (first | (go_at_call 39; refine (Hf.out).mono ?_; rintro e w1 ⟨rfl, rfl⟩) | (go_at_call 14; refine (Hx.out).mono ?_; rintro e w1 ⟨rfl, rfl⟩) |
          (go_at_call 54; refine (fail_any w lo g sl 5 hh).mono ?_; rintro e w1 ⟨rfl, hr1, hf1, hz1⟩))
        go_ret
        exact ⟨rfl, hr1, hf1, hz1⟩
      · rw [if_neg (by simp), if_neg (by omega)]
        go_enter Try.func37, Try.ntmps37
        go_wp2_with (first | (go_at_call 39; refine (Hf.out).mono ?_; rintro e w1 ⟨rfl, rfl⟩) | (go_at_call 14; refine (Hx.out).mono ?_; rintro e w1 ⟨rfl, rfl⟩))
        go_ret
        refine ⟨rfl, ⟨A2, n - r2, c - r2, hb.put 0 _, ?_, by omega, by omega, by have := Hs.out; omega, ?_, hcut2 _ hlo⟩, (Frm.refl _ _).put (.inl (by simp)) _, by simp⟩
        · have := Hl.out
          simp only [List.length_drop]
          omega
        · rw [vb_drop]
          have hcut := hcut1 _ _ _ hr (by rw [vb_length]; have := Hl.out; omega)
          rw [Nat.mul_one] at hcut
          exact hcut.keep fun b hb => Below.heap_setCell w _ _ b (by simp; omega)
    · obtain ⟨rfl, rfl, h4⟩ := herr.resolve_left h3
      have h3' : ((r3 : Int) == 0) = false := beq_eq_false_iff_ne.2 (by omega)
      rw [if_pos h3]
      clear h3 herr h4
      go_enter Try.func37, Try.ntmps37
      go_wp2_with (first | (go_at_call 39; refine (Hf.out).mono ?_; rintro e w1 ⟨rfl, rfl⟩) | (go_at_call 14; refine (Hx.out).mono ?_; rintro e w1 ⟨rfl, rfl⟩) |
        (go_at_call 54; refine (fail_any w lo g sl r3 hh).mono ?_; rintro e w1 ⟨rfl, hr1, hf1, hz1⟩))
      go_ret
      exact ⟨rfl, hr1, hf1, hz1⟩
  · have hnum : s.number most = (0, s) := by rw [RdS.number, if_pos (by omega)]
    have he' : ((s.e : Int) == 0) = false := beq_eq_false_iff_ne.2 (by omega)
    rw [hnum]
    clear hnum he hl hs
    go_enter Try.func37, Try.ntmps37
    go_wp2_with (go_at_call 39; refine (failed_any _ lo g s hh).mono ?_; rintro e w1 ⟨rfl, rfl⟩)
    go_ret
    exact ⟨rfl, hh, Frm.refl _ _, rfl⟩
end Go.Proofs.Ytpcpkmpkpjohmaa
