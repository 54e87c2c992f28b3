/- No journal, no disk, power that is off: the walk of the law. -/
import Derived.Test.YtifmhhiabopgmaaMh
import Derived.Test.YtifmhhiabopgmaaMi
namespace Go.Proofs.Ytifmhhiabopgmaa
open Go.RowKit

theorem journalNil_walk (A : Option Addr) (n c : Nat) (l : List UInt8) (hl : l.length = c) (hn : n ≤ c) (hm : c ≤ maxLen) (hA : A = none → n = 0 ∧ c = 0) (W : World) (hr : Rd W W.heap.size A (vb l)) (h0 : 0 < W.heap.size) : Calls Try.prog 3 #[.slice A n c] W fun e w' => e = .returned (.bool true) ∧ Below W.heap.size W w' := by
  refine (call_slice (pre := []) (post := []) (R := fun u => u = .bool true) h0 hl hn hm hA hr (fun p hp => g_journalNil p hp n c) (fun v hv => by rw [hv]; rfl) (by intro v hv; cases hv)).mono ?_
  rintro e w' ⟨v, rfl, rfl, q⟩
  exact ⟨rfl, q⟩
end Go.Proofs.Ytifmhhiabopgmaa
