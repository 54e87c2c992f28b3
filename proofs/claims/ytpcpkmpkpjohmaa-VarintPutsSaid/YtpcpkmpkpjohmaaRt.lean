/- What came in, opened for a walk: whole numbers of 64 bits without a sign, and slices of texts. -/
import Derived.Test.YtpcpkmpkpjohmaaChecked
import Derived.Test.YtpcpkmpkpjohmaaVt
import Derived.Test.YtpcpkmpkpjohmaaRo
namespace Go.Proofs.Ytpcpkmpkpjohmaa
open Go.RowKit Go.ChangeShapes Go.WideShapes Go.ChangeAt
section
variable {H : Type} {enc : TypeId × Value → H} {w : World}
theorem open_u64 : ∀ (fuel : Nat) (cs : List Value) (x : DataW H × List MemPlace), DataW.trod enc Try.prog w 0 (fun _ => true) true fuel 24 cs = some x → ∃ n : Nat, cs = [.int .u64 (n : Int)] ∧ n < 18446744073709551616 := by
  intro fuel cs x h
  obtain ⟨n, rfl, _, hw⟩ := DataW.trod_int Try.underlying24 h
  have hb := bounds_u64 hw
  refine ⟨n.toNat, by rw [Int.toNat_of_nonneg hb.1], by omega⟩
theorem open_tx : ∀ (fuel : Nat) (cs : List Value) (x : DataW H × List MemPlace), DataW.trod enc Try.prog w 0 (fun _ => true) true fuel 22 cs = some x → ∃ y : Tx, cs = [y.val] ∧ y.ok w := by
  intro fuel cs x h
  rcases open_ints Try.underlying22 Try.underlying5 (by kernel_rfl) h with ⟨rfl, _⟩ | ⟨a, n, c, zs, rfl, _, hl, hm, hz, hx, hcell, hwz⟩
  · exact ⟨⟨none, 0, []⟩, rfl, Rd.nil_ _ _ _⟩
  · have hz' : zs.length = c := by simpa using hz
    have hlen : ((zs.take n).map fun x => UInt8.ofNat x.toNat).length = n := by rw [List.length_map, List.length_take]; omega
    refine ⟨⟨some a, c, (zs.take n).map fun x => UInt8.ofNat x.toNat⟩, by rw [Tx.val, hlen], ?_⟩
    have e : vb ((zs.take n).map fun x => UInt8.ofNat x.toNat) = vi .u8 (zs.take n) := by
      simp only [vb, vi, List.map_map]
      refine List.map_congr_left fun x hx => ?_
      have hb := wf_u8 (hwz x (List.mem_of_mem_take hx))
      have h2 : (UInt8.ofNat x.toNat).toNat = x.toNat := by simp; omega
      show Value.int .u8 ((UInt8.ofNat x.toNat).toNat : Int) = _
      rw [h2, Int.toNat_of_nonneg hb.1]
    show Rd w w.heap.size (some a) (vb _)
    rw [e]
    intro j u hu
    have hj : j < zs.length ∧ j < n := by
      simp only [vi, List.getElem?_map, List.getElem?_take] at hu
      split at hu
      · rename_i hjn
        omega
      · simp at hu
    have hc := hcell j hj.1
    obtain ⟨b, off, spot⟩ := a
    have hspot : spot = none := by
      have h0 := hcell 0 (by omega)
      simpa [Addr.add] using World.cell?_spot h0
    subst hspot
    rw [Addr.add_lit] at hc
    refine ⟨b, off, rfl, World.block_lt_of_cell? w _ hc, ?_⟩
    rw [hc]
    simp only [vi, List.getElem?_map, List.getElem?_take, if_pos hj.2] at hu
    rw [List.getD_eq_getElem?_getD, List.getElem?_eq_getElem hj.1] at *
    simpa using hu
theorem flat_u64 (l : List Nat) : (l.flatMap fun n : Nat => [Value.int .u64 (n : Int)]) = vu l := by
  induction l with
  | nil => rfl
  | cons a l ih => rw [List.flatMap_cons, ih]; rfl
theorem flat_tx (l : List Tx) : (l.flatMap fun x : Tx => [x.val]) = vt l := by
  induction l with
  | nil => rfl
  | cons a l ih => rw [List.flatMap_cons, ih]; rfl
end
end Go.Proofs.Ytpcpkmpkpjohmaa
