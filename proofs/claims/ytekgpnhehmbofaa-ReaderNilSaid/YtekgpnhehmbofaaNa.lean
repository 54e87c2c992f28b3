/- Reading from no library: the law. -/
import Derived.Test.YtekgpnhehmbofaaMa
namespace Go.Proofs.Ytekgpnhehmbofaa
open Go.RowKit

noncomputable def oLoad : OFn := fun args H => match args with
  | [.pointer none, .int .i64 _] => some (.int .i64 1, H)
  | _ => none
theorem oLoad_ok : OEOk Try.prog (22, oLoad) := by
  refine ⟨by decide, fun args H v H' h => ⟨Try.call22, ?_⟩⟩
  unfold oLoad at h
  simp only at h
  split at h
  · injection h with h
    injection h with h1 h2
    subst h1 h2
    exact ⟨(g_load_nil _ _).widen (by intro _ h; cases h), .refl _⟩
  · cases h
theorem reader_runs (n : Int) : comesTo ft (orc [(22, oLoad)]) tab 100000 3 [.int .i64 n] (.bool true) = true := by kernel_rfl
theorem readerNil_walk (x : Int) (_hw : (Lit.int .i64 x).wf = true) (W : World) : Calls Try.prog 3 #[.int .i64 x] W fun e w' => e = .returned (.bool true) ∧ Below W.heap.size W w' := by
  obtain ⟨h1, h2⟩ := comesTo_calls tab_is mix ft_ok (orc_ok (fun p hp => by rw [List.mem_singleton] at hp; subst hp; exact oLoad_ok)) (reader_runs x)
  refine (call_plain h2 (fun v hv => by rw [hv]; rfl) (by intro v hv; rw [List.mem_singleton] at hv; subst hv; rfl) W).mono ?_
  rintro e w' ⟨v, rfl, rfl, q⟩
  exact ⟨rfl, q⟩
end Go.Proofs.Ytekgpnhehmbofaa
