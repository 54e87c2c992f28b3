/- check.Open, walked; lives of layer 2. -/
import Derived.Test.YtjlimdiimdihfaaCv
import Derived.Deep.RegionHeld3
namespace Go.Proofs.Ytjlimdiimdihfaa
open Go.RowKit

/-- Sealed bytes without their sum. -/
def openL (l : List UInt8) : Option (List UInt8) := if 4 ≤ l.length ∧ sealL (l.take (l.length - 4)) = l then some (l.take (l.length - 4)) else none
/-- What Open leaves. -/
def OpenE (w : World) (l : List UInt8) (e : Ending) (w' : World) : Prop :=
  ∃ v, e = .returned (.tuple #[v, .bool (openL l).isSome]) ∧ (openL l = none → v = .slice none 0 0) ∧ (∀ b, openL l = some b → w'.ownsRow w.heap.size 5 1 v b.length (vb b)) ∧ Below w.heap.size w w'

set_option maxHeartbeats 1000000 in
set_option maxRecDepth 100000 in
theorem copen_any (A : Option Addr) (n c : Nat) (l : List UInt8) (w : World) (hl : l.length = n) (hn : n ≤ c) (hm : c ≤ maxLen) (hA : A = none → n = 0) (hr : Rd w w.heap.size A (vb l)) (hsz : n ≤ 35184372088832) :
    Calls Try.prog 23 #[.slice A n c] w (OpenE w l) := by
  unfold maxLen at hm
  by_cases h4 : n < 4
  · have ho : openL l = none := by unfold openL; rw [if_neg (by omega)]
    have Ho := Lib.hid ho
    clear ho hl
    go_enter Try.func23, Try.ntmps23
    go_wp2_with fail
    go_ret2
    refine ⟨.slice none 0 0, ?_, fun _ => rfl, fun b hb => ?_, Below.refl _ _⟩
    · rw [Ho.out]; rfl
    · rw [Ho.out] at hb; cases hb
  · obtain ⟨m, rfl⟩ : ∃ m, n = m + 4 := ⟨n - 4, by omega⟩
    have hbl : (l.take m).length = m := by rw [List.length_take]; omega
    have hrb : Rd w w.heap.size A (vb (l.take m)) := by rw [vb_take]; exact hr.take m
    have hAb : A = none → m = 0 := fun h => by have := hA h; omega
    have ho : openL l = if sealL (l.take m) = l then some (l.take m) else none := by
      unfold openL
      rw [show l.length - 4 = m by omega]
      by_cases h : sealL (l.take m) = l
      · rw [if_pos ⟨by omega, h⟩, if_pos h]
      · rw [if_neg (fun x => h x.2), if_neg h]
    have Ho := Lib.hid ho
    have Hl := Lib.hid hl
    have Hbl := Lib.hid hbl
    clear ho hl hA hbl
    have hcast : ((m + 4 : Nat) : Int) - 4 = (m : Int) := by omega
    go_enter Try.func23, Try.ntmps23
    go_wp2_with fail
    refine (seal_any A m c (l.take m) w Hbl.out (by omega) (by unfold maxLen; omega) hAb hrb (by omega)).mono ?_
    rintro e w1 ⟨v, rfl, hown, hb1⟩
    obtain ⟨A1, c1, rfl, hc1, hm1, _, hr1⟩ := own_shape hown (by unfold maxLen; omega)
    clear hown
    go_wp2_with fail
    refine (equal_any A1 (m + 4) c1 (sealL (l.take m)) A (m + 4) c l w1 (by rw [sealL_length, Hbl.out]) hr1 Hl.out (hr.below_ hb1) (by omega) (by omega)).mono ?_
    rintro e w2 ⟨r, rfl, hiff, hb2⟩
    have hb := below_tr hb1 hb2
    by_cases hs : sealL (l.take m) = l
    · obtain rfl : r = true := hiff.2 hs
      have ho := Ho.out
      rw [if_pos hs] at ho
      have Ho2 := Lib.hid ho
      clear ho Ho hs hiff
      go_wp2_with fail
      refine (clone_any A m c w2.heap.size (l.take m) w2 Hbl.out (by omega) hAb (hrb.below_ hb)).mono ?_
      rintro e w3 ⟨v, rfl, hown3, hb3⟩
      go_wp2_with fail
      go_ret2
      refine ⟨v, by rw [Ho2.out]; rfl, fun h => ?_, fun b h => ?_, below_tr hb hb3⟩
      · rw [Ho2.out] at h; cases h
      · rw [Ho2.out] at h
        obtain rfl : l.take m = b := by injection h
        rw [Hbl.out]
        exact own_mono hown3 hb.size
    · obtain rfl : r = false := by
        cases r
        · rfl
        · exact absurd (hiff.1 rfl) hs
      have ho := Ho.out
      rw [if_neg hs] at ho
      have Ho2 := Lib.hid ho
      clear ho Ho hs hiff
      go_wp2_with fail
      go_ret2
      refine ⟨.slice none 0 0, ?_, fun _ => rfl, fun b hb => ?_, hb⟩
      · rw [Ho2.out]; rfl
      · rw [Ho2.out] at hb; cases hb
end Go.Proofs.Ytjlimdiimdihfaa
