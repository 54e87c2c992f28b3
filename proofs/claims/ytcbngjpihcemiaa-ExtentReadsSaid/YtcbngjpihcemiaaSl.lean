/- slices.Clip and slices.Clone of bytes, walked. -/
import Derived.Test.YtcbngjpihcemiaaChecked
import Derived.Test.YtcbngjpihcemiaaWe
import Derived.WalkLawsBesides
import Derived.RegionTactic
namespace Go.Proofs.Ytcbngjpihcemiaa
open Go.RowKit

theorem elm_u8 : Elm Try.prog 40 5 (.int .u8 0) 1 1 := Elm.mk Try.underlying40 (by kernel_rfl) rfl (by omega)

theorem clip_any (A : Option Addr) (n c : Nat) (w : World) (hn : n ≤ c) (_hm : c ≤ maxLen) :
    Calls Try.prog 144 #[.slice A n c] w fun e w' => e = .returned (.slice A n n) ∧ w = w' := by
  unfold maxLen at _hm
  go_enter Try.func144, Try.ntmps144
  go_wp2
  go_ret
  exact ⟨rfl, rfl⟩

theorem clone_any (A : Option Addr) (n c B : Nat) (l : List UInt8) (w : World) (hl : l.length = n) (hn : n ≤ 140737488355328) (hA : A = none → n = 0) (hr : Rd w B A (vb l)) :
    Calls Try.prog 125 #[.slice A n c] w fun e w' => ∃ v, e = .returned v ∧ w'.ownsRow w.heap.size 5 1 v n (vb l) ∧ Below w.heap.size w w' := by
  cases A with
  | none =>
    obtain rfl := hA rfl
    obtain rfl : l = [] := List.eq_nil_of_length_eq_zero hl
    have heq := fun w : World => Lib.run_eql_slice_nil (P := Try.prog) w 40 5 none 0 c 0 0 Try.underlying40
    go_enter Try.func125, Try.ntmps125
    go_wp2
    go_ret
    exact ⟨_, rfl, World.ownsRow_nil _ _ _ _, Below.refl _ _⟩
  | some a =>
    have heq := fun w : World => Lib.run_eql_slice_nil (P := Try.prog) w 40 5 (some a) n c 0 0 Try.underlying40
    have Hl := Lib.hid hl
    have Hn := Lib.hid hn
    clear hl hA hn
    have hown : (w.alloc (.cells #[] 5)).ownsRow w.heap.size 5 1 (.slice (some ⟨w.heap.size, 0, none⟩) 0 0) 0 [] := World.ownsRow_made w #[] 0 (Nat.le_refl _) (by simp [maxLen]) rfl
    have hrd : Rd (w.alloc (.cells #[] 5)) (min B w.heap.size) (some a) (vb l) := by
      intro j u hu
      obtain ⟨b, off, h1, h2, h3⟩ := hr j u hu
      have hlt := World.block_lt_of_cell? w _ h3
      exact ⟨b, off, h1, by simp at hlt; omega, (World.cell?_of_block (Below.heap_alloc w _ b hlt)).trans h3⟩
    go_enter Try.func125, Try.ntmps125
    go_wp2_with (at_builtin; refine wpList_append_app _ rfl (.tmp 5) (.tmp 6) _ rfl w.heap.size _ _ 1 1 elm_u8 _ 0 [] rfl (.inl hown) _ _ n c (vb l) rfl (by rw [vb_length, Hl.out]; omega) hrd (vb_one _) (by have := Hn.out; simp only [maxLen]; omega) (by have := Hn.out; omega) (by simp) ?_; intro v1 w1 hA1)
    go_ret
    refine ⟨v1, rfl, ?_, ?_⟩
    · have := hA1.own (.inr hown)
      simpa using this
    · exact (below_al (Below.refl _ _) _).trans hA1.below

end Go.Proofs.Ytcbngjpihcemiaa
