/- DiskActs: what came in, opened for its walk. -/
import Derived.Test.YteglbehjokldjaaKg
import Derived.Test.YteglbehjokldjaaRo
namespace Go.Proofs.Yteglbehjokldjaa
open Go.RowKit Go.ChangeShapes Go.WideShapes Go.ChangeAt

theorem list4 {cs : List Value} {x0 x1 x2 x3 : Value} (hl : cs.length = 4) (h0 : cs[0]? = some x0) (h1 : cs[1]? = some x1) (h2 : cs[2]? = some x2) (h3 : cs[3]? = some x3) : cs = [x0, x1, x2, x3] := by
  match cs, hl with
  | [x, y, z, u], _ => simp at h0 h1 h2 h3; rw [h0, h1, h2, h3]
theorem open_kact {H : Type} {enc : TypeId × Value → H} {w : World} : ∀ (fuel : Nat) (cs : List Value) (x : DataW H × List MemPlace), DataW.trod enc Try.prog w 0 (fun _ => true) true fuel 37 cs = some x → ∃ a : KaS, cs = a.cells ∧ a.ok w := by
  intro fuel cs x h
  obtain ⟨hl, hf⟩ := open_fields Try.underlying37 (by kernel_rfl) (by kernel_rfl) h
  obtain ⟨v0, m0, y0, e0, t0⟩ := hf 0 _ rfl
  obtain ⟨v1, m1, y1, e1, t1⟩ := hf 1 _ rfl
  obtain ⟨v2, m2, y2, e2, t2⟩ := hf 2 _ rfl
  obtain ⟨v3, m3, y3, e3, t3⟩ := hf 3 _ rfl
  obtain ⟨n0, q0, _, w0⟩ := DataW.trod_int Try.underlying5 t0
  obtain ⟨n1, q1, _, w1⟩ := DataW.trod_int Try.underlying3 t1
  obtain ⟨n2, q2, _, w2⟩ := DataW.trod_int Try.underlying3 t2
  obtain ⟨A, c, l, rfl, g1, g2, g3, g4⟩ := open_bt Try.underlying32 Try.underlying5 (by kernel_rfl) t3
  simp only [List.cons.injEq, and_true] at q0 q1 q2
  subst q0 q1 q2
  have b0 := bounds_u8 w0
  have b1 := bounds_i64 w1
  have b2 := bounds_i64 w2
  refine ⟨⟨n0.toNat, n1, n2, A, c, l⟩, ?_, ⟨by simp only; omega, by simp only; omega, by simp only; omega, ⟨g1, g2⟩, fun h => (g3 h).1, g4⟩⟩
  rw [list4 hl e0 e1 e2 e3]
  show _ = [Value.int .u8 (n0.toNat : Int), _, _, _]
  rw [Int.toNat_of_nonneg (by omega)]
theorem dacts_all (x : Int) (_hw : (Lit.int .i64 x).wf = true) (A : Option Addr) (n c : Nat) (l : List KaS) (hl : l.length = n) (w : World) (hok : ∀ a ∈ l, a.ok w) (hr : Rd w w.heap.size A (l.flatMap KaS.cells)) :
    Calls Try.prog 3 #[.int .i64 x, .slice A n c] w fun e w' => e = .returned (.bool true) ∧ Below w.heap.size w w' := dacts_walk x A n c l hl w hok hr
end Go.Proofs.Yteglbehjokldjaa
