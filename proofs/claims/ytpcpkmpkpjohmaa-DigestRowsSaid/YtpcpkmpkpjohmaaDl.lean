/- The laws' lives of layer 3. -/
import Derived.Test.YtpcpkmpkpjohmaaDk
namespace Go.Proofs.Ytpcpkmpkpjohmaa
open Go.RowKit

theorem ofN_0 : ofN 0 [0] = 1 := by
  have h := ofN_snoc 0 [] 0
  rw [List.nil_append] at h
  rw [h]
  unfold ofN stepN PR
  simp

set_option maxHeartbeats 1000000 in
set_option maxRecDepth 100000 in
theorem dlives (w : World) : Calls Try.prog 24 #[] w fun e w' => e = .returned (.bool true) ∧ Below w.heap.size w w' := by
  have hr : Rd (w.alloc (.cells #[.int .u8 0] 5)) (w.alloc (.cells #[.int .u8 0] 5)).heap.size (some ⟨w.heap.size, 0, none⟩) (vb [0]) := Rd.new w #[.int .u8 0] 5
  have ho := dof_any (some ⟨w.heap.size, 0, none⟩) 1 1 [0] (w.alloc (.cells #[.int .u8 0] 5)) rfl (by omega) hr
  rw [ofN_0] at ho
  have Ho := Lib.hid ho
  clear ho hr
  go_enter Try.func24, Try.ntmps24
  go_wp2_with fail
  refine (Ho.out).mono ?_
  rintro e w1 ⟨rfl, hb⟩
  go_wp2_with fail
  go_ret
  exact ⟨rfl, below_tr (below_al (Below.refl _ _) _) hb⟩
end Go.Proofs.Ytpcpkmpkpjohmaa
