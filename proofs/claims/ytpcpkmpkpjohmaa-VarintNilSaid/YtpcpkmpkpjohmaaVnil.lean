/- VarintNil's walk. -/
import Derived.Test.YtpcpkmpkpjohmaaVs
namespace Go.Proofs.Ytpcpkmpkpjohmaa
open Go.RowKit
set_option maxHeartbeats 1000000 in
theorem vnil_walk (n : Int) (_hw : (Lit.int .i64 n).wf = true) (w : World) : Calls Try.prog 10 #[.int .i64 n] w fun e w' => e = .returned (.bool true) ∧ Below w.heap.size w w' := by
  go_enter Try.func10, Try.ntmps10
  go_wp2_with fail
  refine (vlives w).mono ?_
  rintro e w1 ⟨rfl, hb⟩
  go_wp2_with fail
  refine (number_nil w1 _).mono ?_
  rintro e w2 ⟨rfl, rfl⟩
  go_wp2_with fail
  refine (bytes_nil w1 n).mono ?_
  rintro e w2 ⟨rfl, rfl⟩
  go_wp2_with fail
  refine (failed_nil w1).mono ?_
  rintro e w2 ⟨rfl, rfl⟩
  go_wp2_with fail
  refine (end_nil w1).mono ?_
  rintro e w2 ⟨rfl, rfl⟩
  go_wp2
  go_ret
  exact ⟨rfl, hb⟩
end Go.Proofs.Ytpcpkmpkpjohmaa
