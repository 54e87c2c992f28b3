/- The disk and its model: each call's contract in one, whatever its arguments. -/
import Derived.Test.YteglbehjokldjaaKe
namespace Go.Proofs.Yteglbehjokldjaa
open Go.RowKit

/-- Put, whatever comes in. -/
def putR (p : PowS) (bs : List UInt8) (n : Nat) (i : Int) (b : List UInt8) : Int × PowS × List UInt8 :=
  if i < 0 ∨ (n : Int) ≤ i ∨ 64 < b.length then (1, p, bs) else ((p.gone 64).2, p.wrote 64, putB p bs i.toNat b)
theorem dput_any (w : World) (g pg gs n : Nat) (p : PowS) (bs : List UInt8) (h : Dk w g pg gs n p bs) (i : Int) (A : Option Addr) (m c : Nat) (b : List UInt8) (hl : b.length = m) (hr : Rd w w.heap.size A (vb b)) :
    Calls Try.prog 18 #[.pointer (some ⟨g, 0, none⟩), .int .i64 i, .slice A m c] w fun e w' => e = .returned (.int .i64 (putR p bs n i b).1) ∧ Dk w' g pg gs n (putR p bs n i b).2.1 (putR p bs n i b).2.2 ∧ Frm w w' [pg, gs] := by
  by_cases hb : i < 0 ∨ (n : Int) ≤ i ∨ 64 < b.length
  · unfold putR
    rw [if_pos hb]
    exact (dput_no w g pg gs n p bs h i A m c (by rw [← hl]; exact hb)).mono fun e w' ⟨h1, h2⟩ => ⟨h1, h2 ▸ h, h2 ▸ Frm.refl _ _⟩
  · unfold putR
    rw [if_neg hb]
    obtain ⟨j, rfl⟩ := Int.eq_ofNat_of_zero_le (show 0 ≤ i by omega)
    exact dput_ok w g pg gs n p bs h j (by omega) A m c b hl (by omega) hr
theorem mput_any (w : World) (gm gb n : Nat) (p : PowS) (bs : List UInt8) (h : Md w gm gb n p bs) (i : Int) (A : Option Addr) (m c : Nat) (b : List UInt8) (hl : b.length = m) (hr : Rd w w.heap.size A (vb b)) :
    Calls Try.prog 19 #[.pointer (some ⟨gm, 0, none⟩), .int .i64 i, .slice A m c] w fun e w' => e = .returned (.int .i64 (putR p bs n i b).1) ∧ Md w' gm gb n (putR p bs n i b).2.1 (putR p bs n i b).2.2 ∧ Frm w w' [gm, gb] := by
  by_cases hb : i < 0 ∨ (n : Int) ≤ i ∨ 64 < b.length
  · unfold putR
    rw [if_pos hb]
    exact (mput_no w gm gb n p bs h i A m c (by rw [← hl]; exact hb)).mono fun e w' ⟨h1, h2⟩ => ⟨h1, h2 ▸ h, h2 ▸ Frm.refl _ _⟩
  · unfold putR
    rw [if_neg hb]
    obtain ⟨j, rfl⟩ := Int.eq_ofNat_of_zero_le (show 0 ≤ i by omega)
    exact mput_ok w gm gb n p bs h j (by omega) A m c b hl (by omega) hr
/-- PutAll, whatever comes in. -/
def allR (p : PowS) (bs : List UInt8) (n : Nat) (i : Int) (b : List UInt8) : Int × PowS × List UInt8 :=
  if i < 0 ∨ (n : Int) < i ∨ (n : Int) - i < (((b.length + 63) / 64 : Nat) : Int) then (1, p, bs) else putAll b i.toNat ((b.length + 63) / 64) 0 p bs
theorem dall_any (w : World) (g pg gs n : Nat) (p : PowS) (bs : List UInt8) (h : Dk w g pg gs n p bs) (i : Int) (hi : -9223372036854775808 ≤ i ∧ i ≤ 9223372036854775807) (A : Option Addr) (m c : Nat) (b : List UInt8) (hl : b.length = m) (hmc : m ≤ c) (hcm : c ≤ maxLen) (hm : m ≤ 35184372088832) (hr : Rd w w.heap.size A (vb b)) (hd : 0 < m → ∀ a, A = some a → a.block ∉ [pg, gs]) :
    Calls Try.prog 23 #[.pointer (some ⟨g, 0, none⟩), .int .i64 i, .slice A m c] w fun e w' => e = .returned (.int .i64 (allR p bs n i b).1) ∧ Dk w' g pg gs n (allR p bs n i b).2.1 (allR p bs n i b).2.2 ∧ Frm w w' [pg, gs] := by
  subst hl
  by_cases hb : i < 0 ∨ (n : Int) < i ∨ (n : Int) - i < (((b.length + 63) / 64 : Nat) : Int)
  · unfold allR
    rw [if_pos hb]
    exact (dputall_no w g pg gs n p bs h i hi A b.length c hm hb).mono fun e w' ⟨h1, h2⟩ => ⟨h1, h2 ▸ h, h2 ▸ Frm.refl _ _⟩
  · unfold allR
    rw [if_neg hb]
    obtain ⟨j, rfl⟩ := Int.eq_ofNat_of_zero_le (show 0 ≤ i by omega)
    exact dputall_ok w g pg gs n p bs h j A b.length c b rfl hmc hcm hm (by omega) (by omega) hr hd
theorem mall_any (w : World) (gm gb n : Nat) (p : PowS) (bs : List UInt8) (h : Md w gm gb n p bs) (i : Int) (A : Option Addr) (m c : Nat) (b : List UInt8) (hl : b.length = m) (hmc : m ≤ c) (hcm : c ≤ maxLen) (hm : m ≤ 35184372088832) (hr : Rd w w.heap.size A (vb b)) (hd : 0 < m → ∀ a, A = some a → a.block ∉ [gm, gb]) :
    Calls Try.prog 24 #[.pointer (some ⟨gm, 0, none⟩), .int .i64 i, .slice A m c] w fun e w' => e = .returned (.int .i64 (allR p bs n i b).1) ∧ Md w' gm gb n (allR p bs n i b).2.1 (allR p bs n i b).2.2 ∧ Frm w w' [gm, gb] := by
  subst hl
  by_cases hb : i < 0 ∨ (n : Int) < i ∨ (n : Int) - i < (((b.length + 63) / 64 : Nat) : Int)
  · unfold allR
    rw [if_pos hb]
    exact (mall_no w gm gb n p bs h i A b.length c hm (by omega)).mono fun e w' ⟨h1, h2⟩ => ⟨h1, h2 ▸ h, h2 ▸ Frm.refl _ _⟩
  · unfold allR
    rw [if_neg hb]
    obtain ⟨j, rfl⟩ := Int.eq_ofNat_of_zero_le (show 0 ≤ i by omega)
    exact mall_ok w gm gb n p bs h j A b.length c b rfl hmc hcm hm (by omega) (by omega) hr hd
/-- What is read, whatever comes in. -/
def readR (p : PowS) (bs : List UInt8) (n : Nat) (i sz : Int) : Int × List UInt8 :=
  if i < 0 ∨ sz < 0 ∨ (n : Int) < i ∨ ((n : Int) - i) * 64 < sz then (1, []) else if p.off = true then (11, []) else (0, (bs.drop (64 * i.toNat)).take sz.toNat)
/-- Bytes of one's own, and an error. -/
def GotE (w : World) (r : Int × List UInt8) (e : Ending) (w' : World) : Prop :=
  ∃ v t, e = .returned (.tuple #[v, .int .i64 r.1]) ∧ w'.ownsRow w.heap.size t 1 v r.2.length (vb r.2) ∧ Below w.heap.size w w'
theorem dgetall_any (w : World) (g pg gs n : Nat) (p : PowS) (bs : List UInt8) (h : Dk w g pg gs n p bs) (i sz : Int) (hi : -9223372036854775808 ≤ i ∧ i ≤ 9223372036854775807) :
    Calls Try.prog 21 #[.pointer (some ⟨g, 0, none⟩), .int .i64 i, .int .i64 sz] w (GotE w (readR p bs n i sz)) := by
  by_cases hb : i < 0 ∨ sz < 0 ∨ (n : Int) < i ∨ ((n : Int) - i) * 64 < sz
  · unfold readR
    rw [if_pos hb]
    refine (dall_no w g pg gs n p bs h i sz hi hb).mono ?_
    rintro e w' ⟨rfl, rfl⟩
    exact ⟨_, 5, rfl, World.ownsRow_nil _ _ _ _, Below.refl _ _⟩
  · unfold readR
    rw [if_neg hb]
    obtain ⟨j, rfl⟩ := Int.eq_ofNat_of_zero_le (show 0 ≤ i by omega)
    obtain ⟨s, rfl⟩ := Int.eq_ofNat_of_zero_le (show 0 ≤ sz by omega)
    by_cases ho : p.off = true
    · rw [if_pos ho]
      refine (dall_off w g pg gs n p bs h j s (by omega) (by omega) ho).mono ?_
      rintro e w' ⟨rfl, rfl⟩
      exact ⟨_, 5, rfl, World.ownsRow_nil _ _ _ _, Below.refl _ _⟩
    · rw [if_neg ho]
      refine (dall_ok w g pg gs n p bs h j s (by omega) (by omega) (by simpa using ho)).mono ?_
      rintro e w' ⟨v, rfl, h1, h2⟩
      exact ⟨v, _, rfl, h1, h2⟩
/-- Get's: at the end there is no sector. -/
def getR (p : PowS) (bs : List UInt8) (n : Nat) (i : Int) : Int × List UInt8 := if i = (n : Int) then (1, []) else readR p bs n i 64
theorem dget_any (w : World) (g pg gs n : Nat) (p : PowS) (bs : List UInt8) (h : Dk w g pg gs n p bs) (i : Int) :
    Calls Try.prog 20 #[.pointer (some ⟨g, 0, none⟩), .int .i64 i] w (GotE w (getR p bs n i)) := by
  by_cases hb : i < 0 ∨ (n : Int) ≤ i
  · have e : getR p bs n i = (1, []) := by
      unfold getR readR
      by_cases hn : i = (n : Int)
      · rw [if_pos hn]
      · rw [if_neg hn, if_pos (by omega)]
    rw [e]
    refine (dget_no w g pg gs n p bs h i hb).mono ?_
    rintro e w' ⟨rfl, rfl⟩
    exact ⟨_, 5, rfl, World.ownsRow_nil _ _ _ _, Below.refl _ _⟩
  · obtain ⟨j, rfl⟩ := Int.eq_ofNat_of_zero_le (show 0 ≤ i by omega)
    unfold getR readR
    rw [if_neg (by omega), if_neg (by omega)]
    by_cases ho : p.off = true
    · rw [if_pos ho]
      refine (dget_off w g pg gs n p bs h j (by omega) ho).mono ?_
      rintro e w' ⟨rfl, rfl⟩
      exact ⟨_, 5, rfl, World.ownsRow_nil _ _ _ _, Below.refl _ _⟩
    · rw [if_neg ho]
      refine (dget_ok w g pg gs n p bs h j (by omega) (by simpa using ho)).mono ?_
      rintro e w' ⟨A, rfl, h1, h2⟩
      have hl := secB_length h.len (show j < n by omega)
      unfold secB at h1 hl
      refine ⟨_, 139, rfl, ?_, h2⟩
      show w'.ownsRow w.heap.size _ 1 _ ((bs.drop (64 * j)).take 64).length _
      rw [hl]
      exact h1
/-- The same of the model: it lies somewhere. -/
def HasE (w : World) (r : Int × List UInt8) (e : Ending) (w' : World) : Prop :=
  ∃ A c, e = .returned (.tuple #[.slice A r.2.length c, .int .i64 r.1]) ∧ Rd w w.heap.size A (vb r.2) ∧ w = w'
theorem mread_any (w : World) (gm gb n : Nat) (p : PowS) (bs : List UInt8) (h : Md w gm gb n p bs) (i sz : Int) :
    Calls Try.prog 22 #[.pointer (some ⟨gm, 0, none⟩), .int .i64 i, .int .i64 sz] w (HasE w (readR p bs n i sz)) := by
  by_cases hb : i < 0 ∨ sz < 0 ∨ (n : Int) < i ∨ ((n : Int) - i) * 64 < sz
  · unfold readR
    rw [if_pos hb]
    refine (mread_no w gm gb n p bs h i sz (by omega)).mono ?_
    rintro e w' ⟨rfl, rfl⟩
    exact ⟨_, _, rfl, Rd.nil_ _ _ _, rfl⟩
  · unfold readR
    rw [if_neg hb]
    obtain ⟨j, rfl⟩ := Int.eq_ofNat_of_zero_le (show 0 ≤ i by omega)
    obtain ⟨s, rfl⟩ := Int.eq_ofNat_of_zero_le (show 0 ≤ sz by omega)
    by_cases ho : p.off = true
    · rw [if_pos ho]
      refine (mread_off w gm gb n p bs h j s (by omega) (by omega) ho).mono ?_
      rintro e w' ⟨rfl, rfl⟩
      exact ⟨_, _, rfl, Rd.nil_ _ _ _, rfl⟩
    · rw [if_neg ho]
      exact mread_ok w gm gb n p bs h j s (by omega) (by omega) (by simpa using ho)
end Go.Proofs.Yteglbehjokldjaa
