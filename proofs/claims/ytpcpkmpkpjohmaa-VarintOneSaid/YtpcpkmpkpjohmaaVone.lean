/- VarintOne's walk: whatever the bytes, the law answers true and turns nothing that was there. -/
import Derived.Test.YtpcpkmpkpjohmaaVc
import Derived.Deep.RegionHeld3
import Derived.Deep.RegionWith
import Derived.Deep.QuietTactic
import Derived.BigQuiet
namespace Go.Proofs.Ytpcpkmpkpjohmaa
open Go.RowKit

set_option maxHeartbeats 2000000 in
set_option maxRecDepth 100000 in
theorem one_walk (A : Option Addr) (n c : Nat) (l : List UInt8) (hl : l.length = n) (hc : n ≤ c) (_hm : c ≤ maxLen) (_hA : A = none → n = 0 ∧ c = 0) (w : World) (hr : Rd w w.heap.size A (vb l)) :
    Calls Try.prog 3 #[.slice A n c] w fun e w' => e = .returned (.bool true) ∧ Below w.heap.size w w' := by
  have Hl := Lib.hid hl
  clear hl
  by_cases hbig : (1000 : Int) < (n : Int)
  · go_enter Try.func3, Try.ntmps3
    go_wp2_with fail
    refine (vlives w).mono ?_
    rintro e w1 ⟨rfl, hb1⟩
    go_wp2_with fail
    refine (vlives w1).mono ?_
    rintro e w2 ⟨rfl, hb2⟩
    go_wp2
    go_ret
    exact ⟨rfl, below_tr hb1 hb2⟩
  · have hn : n ≤ 9223372036854775000 := by omega
    have herr := nextL_err 0 0 l
    go_enter Try.func3, Try.ntmps3
    go_wp2_with fail
    refine (vlives w).mono ?_
    rintro e w1 ⟨rfl, hb1⟩
    have hr1 := hr.below_ hb1
    go_wp2_with fail
    refine (next_any A n c _ l w1 Hl.out hn hr1).mono ?_
    rintro e w2 ⟨rfl, rfl⟩
    go_wp2_with fail
    refine (refnext_any A n c _ l w1 Hl.out hn hr1).mono ?_
    rintro e w2 ⟨rfl, rfl⟩
    have herr2 : (next l).2.2 = 0 ∨ ((next l).1 = 0 ∧ (next l).2.1 = 0 ∧ (next l).2.2 < 4) := herr
    clear herr
    generalize hN : next l = R at *
    obtain ⟨r1, r2, r3⟩ := R
    have HN := Lib.hid hN
    clear hN
    simp only at herr2
    by_cases h3 : r3 = 0
    · subst h3
      clear herr2
      obtain ⟨h2l, h210, henc, hr1lt⟩ := next_ok HN.out
      have hk1 : (r2 : Int) ≤ (c : Int) := by have := Hl.out; omega
      have hk2 : (r2 : Int) ≤ 10 := by omega
      have hrt : Rd w1 w1.heap.size A (vb (l.take r2)) := by rw [vb_take]; exact hr1.take r2
      have htl : (l.take r2).length = r2 := by rw [List.length_take]; omega
      have hput : ∀ (W : World) (a : Option Addr), Rd W W.heap.size a (vu [r1]) → Calls Try.prog 16 #[.slice none 0 0, .slice a 1 1] W fun e w' =>
          ∃ A2 c2, e = .returned (.slice A2 r2 c2) ∧ (convert 22 9 (.slice A2 r2 c2)).run Try.prog w' = .ok (.string ⟨(l.take r2).toArray⟩) w' ∧ Below W.heap.size W w' := fun W a ha => by
        have e1 : [] ++ encs [r1] = l.take r2 := by rw [encs_cons, encs_nil, List.append_nil, List.nil_append, henc]
        refine (put_any none 0 0 [] a 1 1 [r1] W rfl (by omega) (by unfold maxLen; omega) (Rd.nil_ _ _ _) (fun _ => rfl) rfl ha (by intro x hx; simp at hx; omega) (by rw [e1, htl]; omega) (by omega)).mono ?_
        rintro e w2 ⟨v, rfl, happ, hbel⟩
        rw [e1] at happ
        obtain ⟨A2, c2, rfl, _, hrd2⟩ := happ.rd
        rw [htl]
        exact ⟨A2, c2, rfl, run_string_rd (P := Try.prog) w2 22 9 5 Try.underlying22 Try.underlying5 Try.underlying9 r2 c2 (l.take r2) htl hrd2, hbel⟩
      have Hput := Lib.hid hput
      have Htl := Lib.hid htl
      clear henc htl hr1lt hput
      have hconv : ∀ w' : World, Below w1.heap.size w1 w' → (convert 22 9 (.slice A r2 c)).run Try.prog w' = .ok (.string ⟨(l.take r2).toArray⟩) w' := fun w' hb =>
        run_string_rd (P := Try.prog) w' 22 9 5 Try.underlying22 Try.underlying5 Try.underlying9 r2 c (l.take r2) Htl.out (hrt.below hb)
      have hconv1 := hconv w1.drew (Below.drew (Below.refl _ _))
      have hconv2 := hconv (w1.alloc (.cells #[.int .u64 (r1 : Int)] 24)).drew (Below.drew (below_al (Below.refl _ _) _))
      have Hconv := Lib.hid hconv
      clear hconv
      go_wp2
      go_region_with (first | (go_at_call 16; refine (Hput.out _ _ (Rd.new_drew _ #[.int .u64 (r1 : Int)] 24)).mono ?_; rintro e w2 ⟨A2, c2, rfl, hstr, hbel⟩; have hconv3 := Hconv.out w2 (below_tr (Below.drew (below_al (Below.refl _ _) _)) hbel)))
      all_goals
        go_wp2
        go_ret
        refine ⟨?_, below_tr hb1 (below_tr (Below.drew (below_al (Below.refl _ _) _)) hbel)⟩
        go_simp
    · obtain ⟨rfl, rfl, h4⟩ := herr2.resolve_left h3
      have h3' : ((r3 : Int) == 0) = false := beq_eq_false_iff_ne.2 (by omega)
      clear h3 herr2
      go_wp2
      go_ret
      exact ⟨rfl, hb1⟩
end Go.Proofs.Ytpcpkmpkpjohmaa
