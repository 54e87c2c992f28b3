/- The chapter's example of layer 1 holds, whatever the world. -/
import Derived.Test.YtpcpkmpkpjohmaaVb
namespace Go.Proofs.Ytpcpkmpkpjohmaa
open Go.RowKit

theorem enc_300 : encs [300] = [172, 2] := by
  rw [encs_cons, enc_ge (by omega), enc_lt (by omega)]
  rfl

set_option maxHeartbeats 1000000 in
theorem vlives (w : World) : Calls Try.prog 13 #[] w fun e w' => e = .returned (.bool true) ∧ Below w.heap.size w w' := by
  have h1 := next_any (some ⟨w.heap.size, 0, none⟩) 3 3 (w.heap.size + 1) [172, 2, 9] (w.alloc (.cells #[.int .u8 172, .int .u8 2, .int .u8 9] 5)) rfl (by omega) (rd_new w #[.int .u8 172, .int .u8 2, .int .u8 9] _)
  rw [show next [172, 2, 9] = (300, 2, 0) from by decide] at h1
  have h2 := put_any (some ⟨w.heap.size + 1, 0, none⟩) 1 1 [7] (some ⟨w.heap.size + 1 + 1, 0, none⟩) 1 1 [300] (((w.alloc (.cells #[.int .u8 172, .int .u8 2, .int .u8 9] 5)).alloc (.cells #[.int .u8 7] 5)).alloc (.cells #[.int .u64 300] 24))
    rfl (by omega) (by unfold maxLen; omega) (by simpa [vb] using (Rd.new (w.alloc (.cells #[.int .u8 172, .int .u8 2, .int .u8 9] 5)) #[.int .u8 7] 5).alloc_ _) (by intro h; cases h) rfl
    (by simpa [vu] using Rd.new ((w.alloc (.cells #[.int .u8 172, .int .u8 2, .int .u8 9] 5)).alloc (.cells #[.int .u8 7] 5)) #[.int .u64 300] 24) (by intro x hx; simp at hx; omega) (by rw [enc_300]; simp) (by omega)
  rw [enc_300] at h2
  have H1 := Lib.hid h1
  have H2 := Lib.hid h2
  clear h1 h2
  go_enter Try.func13, Try.ntmps13
  go_wp2_with fail
  refine H1.out.mono ?_
  rintro e w1 ⟨rfl, rfl⟩
  go_wp2_with fail
  refine H2.out.mono ?_
  rintro e w2 ⟨v, rfl, happ, hbel⟩
  obtain ⟨A, c, rfl, hc, hrd⟩ := happ.rd
  have hstr := run_string_rd (P := Try.prog) w2 22 9 5 Try.underlying22 Try.underlying5 Try.underlying9 3 c ([7] ++ [172, 2]) rfl hrd
  go_wp2
  go_ret
  exact ⟨rfl, below_tr (below_al (below_al (below_al (Below.refl _ _) _) _) _) hbel⟩
end Go.Proofs.Ytpcpkmpkpjohmaa
