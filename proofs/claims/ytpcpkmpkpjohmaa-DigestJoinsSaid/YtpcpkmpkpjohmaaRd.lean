/- A digest that came in, opened; DigestJoins' walk at any two. -/
import Derived.Test.YtpcpkmpkpjohmaaDn
import Derived.Test.YtpcpkmpkpjohmaaRo
namespace Go.Proofs.Ytpcpkmpkpjohmaa
open Go.RowKit Go.ChangeShapes Go.WideShapes Go.ChangeAt

theorem open_dig {H : Type} {enc : TypeId × Value → H} {w : World} {b0 : Nat} {v : Value} {d : DataW H} {p : List MemPlace} (hv : Value.okWide Try.prog w .any b0 46 v) (h : DataW.Trod enc Try.prog w 0 (fun _ => true) true 46 v d p) : ∃ a : DgS, v = a.val := by
  obtain ⟨cs, rfl, hs⟩ := okWide_struct Try.underlying46 hv
  obtain ⟨fuel, hf⟩ := h
  obtain ⟨hl, hk⟩ := open_fields Try.underlying46 (by kernel_rfl) (by kernel_rfl) hf
  obtain ⟨v0, m0, y0, e0, t0⟩ := hk 0 _ rfl
  obtain ⟨v1, m1, y1, e1, t1⟩ := hk 1 _ rfl
  obtain ⟨n0, q0, _, w0⟩ := DataW.trod_int Try.underlying24 t0
  obtain ⟨n1, q1, _, w1⟩ := DataW.trod_int Try.underlying24 t1
  simp only [List.cons.injEq, and_true] at q0 q1
  subst q0 q1
  have b0 := bounds_u64 w0
  have b1 := bounds_u64 w1
  refine ⟨⟨n0.toNat, n1.toNat⟩, ?_⟩
  unfold DgS.val
  simp only [Int.toNat_of_nonneg b0.1, Int.toNat_of_nonneg b1.1]
  obtain ⟨l⟩ := cs
  simp only [Value.cells] at hl e0 e1
  have hl2 : l.length = 2 := hl
  clear hl hf hs hv
  match l, hl2 with
  | [x, y], _ =>
  simp at e0 e1
  subst e0 e1
  rfl
theorem djoins_walk (a b : DgS) (w : World) : Calls Try.prog 7 #[a.val, b.val] w fun e w' => e = .returned (.bool true) ∧ Below w.heap.size w w' := by
  by_cases h : 4611686018427387904 ≤ a.sum ∨ 4611686018427387904 ≤ b.sum ∨ 4611686018427387904 ≤ a.len ∨ 4611686018427387904 ≤ b.len
  · exact djoins_far a b w h
  · exact djoins_in a b w (by omega) (by omega) (by omega) (by omega)
end Go.Proofs.Ytpcpkmpkpjohmaa
